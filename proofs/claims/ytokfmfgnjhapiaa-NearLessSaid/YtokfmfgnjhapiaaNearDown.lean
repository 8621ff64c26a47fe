/- container/heap over near's row: down. -/
import Derived.Test.YtokfmfgnjhapiaaNearUp
namespace Go.Proofs.Ytokfmfgnjhapiaa
open Go.RowKit
set_option linter.unusedVariables false
set_option linter.unusedSimpArgs false

theorem kids {k c : Nat} (h0 : 0 < c) (h : par c = k) : c = 2 * k + 1 ∨ c = 2 * k + 2 := by unfold par at h; omega

set_option maxHeartbeats 1000000 in
theorem down_any (r g n c : Nat) (H : List IRow) (m : Nat) (w : World) (h : Row w r (.slice (some ⟨g, 0, none⟩) n c) H) (hn : H.length = n) (hn2 : n ≤ 100000) (hm : m ≤ n) (hu : DownInv (keyOf H) 0 m) :
    Calls Try.prog 63 #[.iface 72 (.pointer (some ⟨r, 0, none⟩)), .int .i64 0, .int .i64 m] w fun e w' => (∃ u, e = .returned u) ∧ ∃ H', Moved w w' r (.slice (some ⟨g, 0, none⟩) n c) H H' ∧ HeapN (keyOf H') m ∧ H'.drop m = H.drop m := by
  refine of_post fun R hR => ?_
  have HR := Lib.hid h
  have Hn := Lib.hid hn
  have HU := Lib.hid hu
  clear h hn hu
  go_enter Try.func63, Try.ntmps63
  go_wp2_with fail
  go_loopw [7] (fun iv wr => ∃ (k : Nat) (H' : List IRow), iv = .int .i64 k ∧ k ≤ m ∧ Hid (Moved w wr r (.slice (some ⟨g, 0, none⟩) n c) H H') ∧ Hid (DownInv (keyOf H') k m) ∧ Hid (H'.drop m = H.drop m)) (fun iv _ => m - (intOf iv).toNat)
  case atStart => exact ⟨0, H, rfl, Nat.zero_le _, Lib.hid (Moved.refl HR.out), HU, Lib.hid rfl⟩
  case round =>
    obtain ⟨k, H', rfl, hk, HM, HV, HD⟩ := hrel
    have hl' := HM.out.1.length_eq.trans Hn.out
    have HL' := Lib.hid hl'
    clear hl'
    obtain ⟨j1, hj1⟩ : ∃ j1 : Nat, j1 = 2 * k + 1 := ⟨_, rfl⟩
    have hq : (2 : Int) * k + 1 = j1 := by omega
    have Hj := Lib.hid hj1
    clear hj1
    by_cases hc : j1 < m
    · have hkm : k < m := by have := Hj.out; omega
      by_cases hc2 : j1 + 1 < m
      · have hm2 := meth_less r _ wr HM.out.2.1.row.cell
        have hq2 : (j1 : Int) + 1 = ((j1 + 1 : Nat) : Int) := by omega
        have hc3 : ((j1 + 1 : Nat) : Int) < m := by omega
        generalize hj2 : j1 + 1 = j2 at hq2 hc3 hc2
        have Hj2 := Lib.hid hj2
        clear hj2
        go_wp2_with fail
        refine (row_less HM.out.2.1 HL'.out hn2 (by omega) (by omega)).mono ?_
        rintro e w1 ⟨rfl, hx⟩
        have HX := Lib.hid hx
        clear hx hm2
        have HM1 : Hid (Moved w w1 r (.slice (some ⟨g, 0, none⟩) n c) H H') := Lib.hid ⟨HM.out.1, HM.out.2.1.ext HX.out, HM.out.2.2.trans (Keeps.of_ext HX.out)⟩
        generalize hb : lessL (keyOf H' j2) (keyOf H' j1) = b
        have Hb := Lib.hid hb
        clear hb
        cases b with
        | false =>
          have hm3 := meth_less r _ w1 HM1.out.2.1.row.cell
          have HMIN : Hid (∀ q, 0 < q → q < m → par q = k → lessL (keyOf H' q) (keyOf H' j1) = false) := Lib.hid fun q h0 _ hp => by
            rcases kids h0 hp with e | e
            · have : q = j1 := by rw [Hj.out]; exact e
              rw [this]; exact lessL_self _
            · have : q = j2 := by rw [← Hj2.out, Hj.out]; exact e
              rw [this]; exact Hb.out
          have HPJ : Hid (par j1 = k) := Lib.hid (by have := Hj.out; unfold par; omega)
          go_wp2_with fail
          refine (row_less HM1.out.2.1 HL'.out hn2 (by omega) (by omega)).mono ?_
          rintro e w2 ⟨rfl, hx⟩
          have hs := meth_swap r _ w2 (HM1.out.2.1.ext hx).row.cell
          have HX2 := Lib.hid hx
          clear hx hm3
          generalize hb2 : lessL (keyOf H' j1) (keyOf H' k) = b2
          have Hb2 := Lib.hid hb2
          clear hb2
          cases b2 with
          | false =>
            go_wp2_with fail
            exact hR.out _ _ ⟨⟨_, rfl⟩, H', ⟨HM1.out.1, HM1.out.2.1.ext HX2.out, HM1.out.2.2.trans (Keeps.of_ext HX2.out)⟩, down_done HV.out (fun q h0 hqm hp => le_trans' Hb2.out (HMIN.out q h0 hqm hp)), HD.out⟩
          | true =>
            go_wp2_with fail
            refine (row_swap (HM1.out.2.1.ext HX2.out) HL'.out hn2 (i := k) (k := j1) (by omega) (by omega)).mono ?_
            rintro e w3 ⟨⟨u, rfl⟩, hr2, hk2⟩
            have HR2 := Lib.hid hr2
            have HK2 := Lib.hid hk2
            clear hr2 hk2 hs
            have hkj : k < j1 := by have := HPJ.out; unfold par at this; have := Hj.out; omega
            go_wp2_with fail
            go_roundw
            case rel =>
              refine ⟨j1, _, by go_num, by omega, Lib.hid ⟨(swapL_perm _ _ _ _ _).trans HM1.out.1, HR2.out, (HM1.out.2.2.trans (Keeps.of_ext HX2.out)).trans HK2.out⟩, Lib.hid ?_, Lib.hid ?_⟩
              · rw [swapL_key]
                exact down_step HV.out (by omega) (by omega) HPJ.out Hb2.out HMIN.out
              · rw [swapL_drop _ _ _ _ _ _ (by omega) (by omega)]; exact HD.out
            case measure => simp [intOf]; omega
        | true =>
          have hm3 := meth_less r _ w1 HM1.out.2.1.row.cell
          have HMIN : Hid (∀ q, 0 < q → q < m → par q = k → lessL (keyOf H' q) (keyOf H' j2) = false) := Lib.hid fun q h0 _ hp => by
            rcases kids h0 hp with e | e
            · have : q = j1 := by rw [Hj.out]; exact e
              rw [this]; exact lessL_asymm Hb.out
            · have : q = j2 := by rw [← Hj2.out, Hj.out]; exact e
              rw [this]; exact lessL_self _
          have HPJ : Hid (par j2 = k) := Lib.hid (by have := Hj.out; have := Hj2.out; unfold par; omega)
          go_wp2_with fail
          refine (row_less HM1.out.2.1 HL'.out hn2 (by omega) (by omega)).mono ?_
          rintro e w2 ⟨rfl, hx⟩
          have hs := meth_swap r _ w2 (HM1.out.2.1.ext hx).row.cell
          have HX2 := Lib.hid hx
          clear hx hm3
          generalize hb2 : lessL (keyOf H' j2) (keyOf H' k) = b2
          have Hb2 := Lib.hid hb2
          clear hb2
          cases b2 with
          | false =>
            go_wp2_with fail
            exact hR.out _ _ ⟨⟨_, rfl⟩, H', ⟨HM1.out.1, HM1.out.2.1.ext HX2.out, HM1.out.2.2.trans (Keeps.of_ext HX2.out)⟩, down_done HV.out (fun q h0 hqm hp => le_trans' Hb2.out (HMIN.out q h0 hqm hp)), HD.out⟩
          | true =>
            go_wp2_with fail
            refine (row_swap (HM1.out.2.1.ext HX2.out) HL'.out hn2 (i := k) (k := j2) (by omega) (by omega)).mono ?_
            rintro e w3 ⟨⟨u, rfl⟩, hr2, hk2⟩
            have HR2 := Lib.hid hr2
            have HK2 := Lib.hid hk2
            clear hr2 hk2 hs
            have hkj : k < j2 := by have := HPJ.out; unfold par at this; have := Hj.out; omega
            go_wp2_with fail
            go_roundw
            case rel =>
              refine ⟨j2, _, by go_num, by omega, Lib.hid ⟨(swapL_perm _ _ _ _ _).trans HM1.out.1, HR2.out, (HM1.out.2.2.trans (Keeps.of_ext HX2.out)).trans HK2.out⟩, Lib.hid ?_, Lib.hid ?_⟩
              · rw [swapL_key]
                exact down_step HV.out (by omega) (by omega) HPJ.out Hb2.out HMIN.out
              · rw [swapL_drop _ _ _ _ _ _ (by omega) (by omega)]; exact HD.out
            case measure => simp [intOf]; omega
      · have hm3 := meth_less r _ wr HM.out.2.1.row.cell
        have hq2 : (j1 : Int) + 1 = ((j1 + 1 : Nat) : Int) := by omega
        have hc3 : ¬ ((j1 + 1 : Nat) : Int) < m := by omega
        have HM1 : Hid (Moved w wr r (.slice (some ⟨g, 0, none⟩) n c) H H') := HM
        have HMIN : Hid (∀ q, 0 < q → q < m → par q = k → lessL (keyOf H' q) (keyOf H' j1) = false) := Lib.hid fun q h0 hqm hp => by
          rcases kids h0 hp with e | e
          · have : q = j1 := by rw [Hj.out]; exact e
            rw [this]; exact lessL_self _
          · have := Hj.out; omega
        have HPJ : Hid (par j1 = k) := Lib.hid (by have := Hj.out; unfold par; omega)
        generalize j1 + 1 = j2 at hq2 hc3
        clear hc2
        go_wp2_with fail
        refine (row_less HM1.out.2.1 HL'.out hn2 (by omega) (by omega)).mono ?_
        rintro e w2 ⟨rfl, hx⟩
        have hs := meth_swap r _ w2 (HM1.out.2.1.ext hx).row.cell
        have HX2 := Lib.hid hx
        clear hx hm3
        generalize hb2 : lessL (keyOf H' j1) (keyOf H' k) = b2
        have Hb2 := Lib.hid hb2
        clear hb2
        cases b2 with
        | false =>
          go_wp2_with fail
          exact hR.out _ _ ⟨⟨_, rfl⟩, H', ⟨HM1.out.1, HM1.out.2.1.ext HX2.out, HM1.out.2.2.trans (Keeps.of_ext HX2.out)⟩, down_done HV.out (fun q h0 hqm hp => le_trans' Hb2.out (HMIN.out q h0 hqm hp)), HD.out⟩
        | true =>
          go_wp2_with fail
          refine (row_swap (HM1.out.2.1.ext HX2.out) HL'.out hn2 (i := k) (k := j1) (by omega) (by omega)).mono ?_
          rintro e w3 ⟨⟨u, rfl⟩, hr2, hk2⟩
          have HR2 := Lib.hid hr2
          have HK2 := Lib.hid hk2
          clear hr2 hk2 hs
          have hkj : k < j1 := by have := HPJ.out; unfold par at this; have := Hj.out; omega
          go_wp2_with fail
          go_roundw
          case rel =>
            refine ⟨j1, _, by go_num, by omega, Lib.hid ⟨(swapL_perm _ _ _ _ _).trans HM1.out.1, HR2.out, (HM1.out.2.2.trans (Keeps.of_ext HX2.out)).trans HK2.out⟩, Lib.hid ?_, Lib.hid ?_⟩
            · rw [swapL_key]
              exact down_step HV.out (by omega) (by omega) HPJ.out Hb2.out HMIN.out
            · rw [swapL_drop _ _ _ _ _ _ (by omega) (by omega)]; exact HD.out
          case measure => simp [intOf]; omega
    · have hc3 : (m : Int) ≤ j1 := by omega
      go_wp2_with fail
      exact hR.out _ _ ⟨⟨_, rfl⟩, H', HM.out, down_done HV.out (fun q h0 hqm hp => by have := Hj.out; rcases kids h0 hp with e | e <;> omega), HD.out⟩
end Go.Proofs.Ytokfmfgnjhapiaa
