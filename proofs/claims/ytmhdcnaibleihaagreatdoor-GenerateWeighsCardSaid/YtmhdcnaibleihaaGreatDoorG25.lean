/- GenerateWeighs: what many draws leave, row by row; how often each place comes. -/
import Derived.Test.YtmhdcnaibleihaaGreatDoorG21
import Derived.Test.YtmhdcnaibleihaaGreatDoorG24
import Derived.Test.YtmhdcnaibleihaaGreatDoorG10
import Derived.Deep.RegionWith
import Derived.Deep.RegionHeld3
import Derived.BigQuiet
import Derived.Deep.OwnRows
import Derived.Test.YtmhdcnaibleihaaGreatDoorG01
import Derived.ProofKit
import Derived.OpenShut
import Derived.Lib.SmallJoins

namespace Go.Proofs.YtmhdcnaibleihaaGreatDoor
set_option maxRecDepth 100000
open Go.RowKit
set_option linter.unusedVariables false
set_option linter.unusedSimpArgs false

/-- What many draws leave, row by row. -/
theorem rows_of {w4 : World} {g : Nat} (ps : List Nat) (n N : Nat) (hn : ps.length = n) (hs : sumL (wei ps) = N) (h0 : 0 < N) {A4 : Option Addr} {ics : List (List Value)}
    (hall : All2 (RdR (Fr g) w4) (outL (wei ps) (upto n) ((upto N).take N)) ics) (hcs : CellsFrom (Fr g) w4 A4 ics.flatten) :
    ∃ b4 o4, A4 = some ⟨b4, o4, none⟩ ∧ g ≤ b4 ∧ ∀ u, u < N → ∃ (pl : Nat) (Z1 : Option Addr) (e1 : Nat) (Z2 : Option Addr) (e2 bd od dc : Nat), pl < n ∧ placeL (wei ps) (u : Int) = pl ∧ w4.rangeAt b4 (o4 + u * 8) (resC pl Z1 e1 Z2 e2 (some ⟨bd, od, none⟩) dc).toList ∧ g ≤ bd ∧ w4.cell? ⟨bd, od, none⟩ = some (.int .i64 pl) := by
  rw [List.take_of_length_le (by rw [upto_len]; exact Nat.le_refl _)] at hall
  have h8 : ∀ c ∈ ics, c.length = 8 := fun c hc => by
    obtain ⟨a, _, _, _, _, _, _, _, rfl, _⟩ := hall.mem2 hc
    rfl
  have hlen : (outL (wei ps) (upto n) (upto N)).length = N := by simp [outL, upto_len]
  have hne : ics.flatten ≠ [] := by
    obtain ⟨c, hc, _⟩ := hall.get (i := 0) (by rw [hlen]; exact h0)
    intro e
    have h3 := List.flatten_eq_nil_iff.1 e c (List.mem_of_getElem? hc)
    have h4 := h8 c (List.mem_of_getElem? hc)
    rw [h3] at h4
    simp at h4
  obtain ⟨b4, o4, rfl, hb4, hcell⟩ := hcs hne
  refine ⟨b4, o4, rfl, hb4, fun u hu => ?_⟩
  obtain ⟨c, hc, hr⟩ := hall.get (i := u) (by rw [hlen]; exact hu)
  have hpl : placeL (wei ps) (u : Int) < n := by
    have := place_lt (wei ps) (u : Int) (by omega) (by rw [hs]; omega)
    rw [wei_len, hn] at this
    exact this
  have hel : (outL (wei ps) (upto n) (upto N))[u]'(by rw [hlen]; exact hu) = ((placeL (wei ps) (u : Int) : Int), placeL (wei ps) (u : Int)) := by
    have h1 : (upto N)[u]'(by rw [upto_len]; exact hu) = (u : Int) := by
      have := upto_get N u hu
      rw [List.getElem?_eq_getElem (by rw [upto_len]; exact hu)] at this
      exact Option.some.inj this
    simp only [outL, List.getElem_map, h1, upto_get n _ hpl, Option.getD_some]
  rw [hel] at hr
  have hrow := rows_range h8 hcell hc
  generalize placeL (wei ps) (u : Int) = pl at *
  obtain ⟨Z1, e1, Z2, e2, D, dc, rfl, hD⟩ := hr
  obtain ⟨bd, od, rfl, hbd, hcd⟩ := hD (by simp)
  exact ⟨pl, Z1, e1, Z2, e2, bd, od, dc, hpl, rfl, hrow, hbd, hcd 0 _ rfl⟩
theorem fall_wei (ps : List Nat) (N : Nat) (hs : sumL (wei ps) = N) (i : Nat) (hi : i < ps.length) : (fallL (wei ps) i N : Int) = ((1 + ps[i]?.getD 0 % 9 : Nat) : Int) := by
  have h := fall_all (wei ps) (fun n hn => (wei_good ps n hn).1) i (by rw [wei_len]; exact hi)
  rw [hs, Int.toNat_natCast] at h
  rw [h, List.getElem?_eq_getElem hi]
  simp [wei]
end Go.Proofs.YtmhdcnaibleihaaGreatDoor

/- GenerateWeighs: the law's walk. -/
namespace Go.Proofs.YtmhdcnaibleihaaGreatDoor
set_option maxRecDepth 100000
open Go.RowKit
set_option linter.unusedVariables false
set_option linter.unusedSimpArgs false

set_option maxHeartbeats 8000000 in
theorem weighs_any (A : Option Addr) (ps : List Nat) (cap : Nat) (w : World) (hA : CellsAt w A (ps.map U8n)) (hc : ps.length ≤ cap) (hcm : cap ≤ maxLen) (hb : ∀ p ∈ ps, p ≤ 255) :
    Calls Tryz.prog 3 #[.slice A ps.length cap] w fun e w' => e = .returned (.bool true) ∧ Ext w w' := by
  refine of_post fun R hR => ?_
  have HAW := fun W => Lib.hid (awake19 W)
  by_cases h0 : ps.length = 0
  · have h0' : ((ps.length : Int) == 0) = true := by rw [h0]; rfl
    generalize ps.length = n at *
    clear hA hb
    go_enter Tryz.func3, Tryz.ntmps3
    go_wp2_with (first
      | (go_at_call 4; (with_reducible refine (HAW w).out.mono ?_); rintro e w1 ⟨rfl, hx⟩; have HX1 := Lib.hid hx; clear hx)
      | (go_at_call 4; refine (HAW _).out.mono ?_; rintro e w2 ⟨rfl, hx⟩; have HX2 := Lib.hid (HX1.out.trans' hx); clear hx))
    exact hR.out _ _ ⟨rfl, HX2.out⟩
  by_cases h8 : 8 < ps.length
  · have h0' : ((ps.length : Int) == 0) = false := by rw [beq_eq_false_iff_ne]; omega
    have h8' : (8 : Int) < ps.length := by omega
    generalize ps.length = n at *
    clear hA hb
    go_enter Tryz.func3, Tryz.ntmps3
    go_wp2_with (first
      | (go_at_call 4; (with_reducible refine (HAW w).out.mono ?_); rintro e w1 ⟨rfl, hx⟩; have HX1 := Lib.hid hx; clear hx)
      | (go_at_call 4; refine (HAW _).out.mono ?_; rintro e w2 ⟨rfl, hx⟩; have HX2 := Lib.hid (HX1.out.trans' hx); clear hx))
    exact hR.out _ _ ⟨rfl, HX2.out⟩
  have h0' : ((ps.length : Int) == 0) = false := by rw [beq_eq_false_iff_ne]; omega
  have h8' : ¬ (8 : Int) < ps.length := by omega
  have h8n : ps.length ≤ 8 := by omega
  obtain ⟨b, o, rfl, hcell⟩ := hA (by intro e; rw [List.map_eq_nil_iff] at e; rw [e] at h0; simp at h0)
  have HCELL : Hid (∀ k (h : k < ps.length), w.cell? ⟨b, o + k, none⟩ = some (.int .u8 (ps[k]?.getD 0 : Nat))) := Lib.hid fun k h => hcell k _ (by rw [List.getElem?_map, List.getElem?_eq_getElem h]; rfl)
  have HPB : Hid (∀ k, k < ps.length → ps[k]?.getD 0 ≤ 255) := Lib.hid fun k h => by rw [List.getElem?_eq_getElem h]; exact hb _ (List.getElem_mem h)
  have HTM := Lib.hid (fun i h s hs hi n hn => text_more ps i h s hs hi n hn)
  have HWT := Lib.hid (wei_take ps)
  have HNE : Hid (ps ≠ []) := Lib.hid fun e => by rw [e] at h0; simp at h0
  have HBL : Hid (b < w.heap.size) := Lib.hid (lt_of_cell (HCELL.out 0 (by omega)))
  generalize hn : ps.length = n at *
  have HN := Lib.hid hn
  clear hA hb hcell hn h0 h8
  go_enter Tryz.func3, Tryz.ntmps3
  go_wp2_with (go_at_call 4; refine (HAW w).out.mono ?_; rintro e w1 ⟨rfl, hx⟩; have HX1 := Lib.hid hx; clear hx)
  go_loopw [33, 3, 4] (fun iv sv mv wr => ∃ (k : Nat) (s : ByteArray), k ≤ n ∧ iv = .int .i64 k ∧ sv = .string s ∧ mv = .int .i64 (sumL (wei (ps.take k))) ∧ Hid (tl s = bodyB (itm (ps.take k))) ∧ Hid (Ext w1 wr)) (fun iv _ _ _ => n - (intOf iv).toNat)
  case atStart => exact ⟨0, ⟨#[]⟩, Nat.zero_le _, rfl, rfl, rfl, Lib.hid rfl, Lib.hid (Ext.refl' _)⟩
  case round =>
    obtain ⟨k, s, hk, rfl, rfl, rfl, HS, HXR⟩ := hrel
    by_cases hlt : k < n
    · have hq := (HX1.out.trans' HXR.out).cell' (HCELL.out k hlt)
      have hx255 := HPB.out k hlt
      have HM := HTM.out k hlt s HS.out (by omega)
      have HW := HWT.out k hlt
      generalize ps[k]?.getD 0 = x at *
      obtain ⟨y, hy⟩ : ∃ y, x % 9 = y := ⟨_, rfl⟩
      rw [hy] at HM HW
      have hy1 : (x : Int).tmod 9 = (y : Nat) := by
        show ((x : Int).tmod ((9 : Nat) : Int)) = _
        rw [← Int.ofNat_tmod, hy]
      have hy2 : y < 9 := by omega
      obtain ⟨q, hq2⟩ : ∃ q, 1 + y = q := ⟨_, rfl⟩
      have hq1 : (1 : Int) + (y : Nat) = (q : Nat) := by omega
      have hq9 : q < 10 := by omega
      have hq0 : 0 < q := by omega
      rw [hq2] at HM HW
      have HMM := Lib.hid (HM q rfl)
      have HWW := Lib.hid HW
      have hsl := wei_sum (ps.take k) (by rw [List.length_take]; omega)
      have hsl1 := hsl.1
      have hsl2 := hsl.2.1
      clear hsl
      generalize sumL (wei (ps.take k)) = sm at *
      clear HM HW hy hq2
      have hss : s.size ≤ 88 := by
        have h1 := textB_len (itm (ps.take k))
        rw [← HS.out, itm_len, List.length_take, tl_len] at h1
        omega
      have g1 : (q : Int) ≤ (q : Int) + 1 := by omega
      have g2 : (q : Int) + 1 ≤ 10 := by omega
      have g3 : (k : Int) + 1 ≤ 8 := by omega
      by_cases hk0 : (0 : Int) < k
      · go_upto_region 10 with fail
        go_region
        all_goals
          go_wp2_with fail
          go_roundw
          case rel => exact ⟨k + 1, _, hlt, by go_num, rfl, by rw [HWW.out], Lib.hid (HMM.out.1 (by omega)), Lib.hid (HXR.out.drewN' 1)⟩
          case measure => simp [intOf]; omega
      · go_upto_region 10 with fail
        go_region
        all_goals
          go_wp2_with fail
          go_roundw
          case rel => exact ⟨k + 1, _, hlt, by go_num, rfl, by rw [HWW.out], Lib.hid (HMM.out.2 (by omega)), Lib.hid (HXR.out.drewN' 1)⟩
          case measure => simp [intOf]; omega
    · have hkn : n = k := by omega
      subst hkn
      have htk : ps.take n = ps := List.take_of_length_le (by rw [HN.out]; exact Nat.le_refl _)
      rw [htk] at HS
      rw [htk]
      have hss : s.size ≤ 88 := by
        have h1 := textB_len (itm ps)
        rw [← HS.out, itm_len, tl_len, HN.out] at h1
        omega
      have HSS := Lib.hid (text_all _ s HS.out)
      have hsum := wei_sum ps (by rw [HN.out]; exact h8n)
      obtain ⟨N, hN⟩ : ∃ N : Nat, sumL (wei ps) = N := ⟨(sumL (wei ps)).toNat, by omega⟩
      have hN0 : 0 < N := by have := hsum.2.2 HNE.out; omega
      have hN1 : N ≤ 8000 := by have := hsum.2.1; omega
      have HSN := Lib.hid hN
      rw [hN]
      have HRD := Lib.hid (readW (itm ps) (itm_lt ps (by rw [HN.out]; omega)) (itm_ne ps HNE.out) (by rw [itm_len, HN.out]; omega) _ HSS.out wr)
      rw [itm_fst, itm_snd, show (List.range ps.length).map (fun i : Nat => (i : Int)) = upto n from by rw [HN.out]; rfl] at HRD
      clear hsum hN htk hlt hk
      go_upto_region 17 with (go_at_call 5; refine HRD.out.mono ?_; rintro e w2 ⟨⟨gb, ts, rfl, hg, hT⟩, hx⟩; have HG := Lib.hid hg; have HT := Lib.hid hT; have HX2 := Lib.hid (HX1.out.trans' (HXR.out.trans' hx)); clear hg hT hx)
      clear HRD HTM HWT HSS HS
      go_wp2_with fail
      go_loopw [77, 11] (fun iv uv wz => ∃ i : Nat, i ≤ N ∧ iv = .int .i64 i ∧ Hid (wz.ownsRow w2.heap.size 3 1 uv i ((upto i).map I64)) ∧ Hid (Ext w2 wz)) (fun iv _ _ => N - (intOf iv).toNat)
      case atStart => exact ⟨0, Nat.zero_le _, rfl, Lib.hid (own_nil w2 w2 _ _), Lib.hid (Ext.refl' _)⟩
      case round =>
        obtain ⟨i, hi, rfl, HO, HXL⟩ := hrel
        obtain ⟨C, cc, rfl⟩ := own_form HO.out
        by_cases hlt : i < N
        · have HON : Hid (∀ u ∈ (#[.int .i64 (i : Int)] : Array Value).toList, u.oneCell' = true) := Lib.hid (fun u hu => by simp at hu; subst hu; rfl)
          go_wp2_with (at_builtin; go_must (refine wpList_push _ rfl _ _ 28 rfl w2 3 (.int .i64 0) 1 8 Tryz.underlying28 infoIntG rfl (by decide) #[.int .i64 (i : Int)] rfl (.slice C i cc) i ((upto i).map I64) rfl HO.out HON.out rfl (by omega) (by decide) HXL.out ?_); intro u' w3 HO3 HX4 HPU)
          go_roundw
          case rel => exact ⟨i + 1, hlt, by go_num, Lib.hid (by have := HO3.out; rw [upto_succ, List.map_append]; exact this), HX4⟩
          case measure => simp [intOf]; omega
        · have hiN : N = i := by omega
          subst hiN
          have hmk := run_make_row' (P := Tryz.prog) 28 3 (.int .i64 0) 8 Tryz.underlying28 infoIntG rfl .i64 .i64 n (by omega) (by omega)
          have HXA := Lib.hid (ext_al wr (.cells (madeCells #[Value.int .i64 0] n) 3))
          have HMO := Lib.hid (ownMadeG wr n (by unfold maxLen; omega))
          have HSC := Lib.hid (scriptT C (upto N) cc _ ((cellsAt_of_own HO.out).ext HXA.out) (upto_ne N hN0) (by rw [upto_len]; omega))
          rw [upto_len] at HSC
          have HMN := Lib.hid (fun (sb : Nat) (W : World) (hx : Ext w2 W) (hsb : w2.heap.size ≤ sb) (hs : Src W sb 0 (upto N)) => manyN gb sb (upto N) (wei ps) (upto n) (by rw [upto_len, wei_len, HN.out]) w2 [97] ts HT.out 9 W hx hsb HG.out (by decide) hs (by decide) (by decide) N (by rw [upto_len]; exact Nat.le_refl _) (by rw [upto_len]; omega) (fun v hv => by have := upto_mem N v hv; rw [HSN.out]; exact this) (wei_good ps) (by rw [wei_len, HN.out]; omega))
          have HBA : Hid (wr.heap.size < (wr.alloc (.cells (madeCells #[Value.int .i64 0] n) 3)).heap.size) := Lib.hid (by rw [World.size_alloc]; omega)
          go_upto_region 24 with (first
            | (go_at_call 7; refine HSC.out.mono ?_; rintro e w3 ⟨⟨sb, rfl, hsb, hs⟩, hx⟩; have HSB := Lib.hid hsb; have HS3 := Lib.hid hs; have HX3 := Lib.hid hx; clear hsb hs hx)
            | (go_at_call 6; refine (HMN.out sb w3 (HXL.out.trans' (HXA.out.trans' HX3.out)) (Nat.le_trans HXL.out.size (Nat.le_trans HXA.out.size HSB.out)) HS3.out).mono ?_; rintro e w4 ⟨⟨A4, c4, ics, rfl, hall, hcs⟩, hk⟩; have HALL := Lib.hid hall; have HCS := Lib.hid hcs; have HK := Lib.hid hk; clear hall hcs hk))
          have HX4 : Hid (Ext w w4) := Lib.hid (Keeps.below (HX2.out.trans' (HXL.out.trans' (HXA.out.trans' HX3.out))) HK.out fun k hk e => by
            have h1 : k = sb := e
            subst h1
            exact absurd hk (Nat.not_lt.2 (Nat.le_trans HX2.out.size (Nat.le_trans HXL.out.size (Nat.le_trans (Nat.le_of_lt HBA.out) HSB.out)))))
          have HGC : Hid (w.heap.size ≤ wr.heap.size) := Lib.hid (Nat.le_trans HX2.out.size HXL.out.size)
          have HC4 : Hid (w4.ownsRow wr.heap.size 3 1 (.slice (some ⟨wr.heap.size, 0, none⟩) n n) n ((cntL (wei ps) n 0).map I64)) := Lib.hid (by
            rw [cnt_zero]
            refine HK.out.own (own_ext HMO.out HX3.out) fun g hg e => ?_
            have h1 : g = sb := e
            have h2 : wr.heap.size = g := by simpa [Value.ownBlock] using hg
            have h3 := HSB.out
            have h4 := HBA.out
            omega)
          have HG3 : Hid (wr.heap.size < w3.heap.size) := Lib.hid (Nat.lt_of_lt_of_le HBA.out HX3.out.size)
          obtain ⟨b4, o4, rfl, hb4, hrows⟩ := rows_of ps n N HN.out HSN.out hN0 HALL.out HCS.out
          have HB4 : Hid (wr.heap.size < b4) := Lib.hid (Nat.lt_of_lt_of_le HG3.out hb4)
          have HRW : Hid (∀ u, u < N → ∃ (pl : Nat) (Z1 : Option Addr) (e1 : Nat) (Z2 : Option Addr) (e2 bd od dc : Nat), pl < n ∧ placeL (wei ps) (u : Int) = pl ∧ w4.rangeAt b4 (o4 + u * 8) (resC pl Z1 e1 Z2 e2 (some ⟨bd, od, none⟩) dc).toList ∧ wr.heap.size < bd ∧ w4.cell? ⟨bd, od, none⟩ = some (.int .i64 pl)) := Lib.hid fun u hu => by
            obtain ⟨pl, Z1, e1, Z2, e2, bd, od, dc, h1, h2, h3, h4, h5⟩ := hrows u hu
            exact ⟨pl, Z1, e1, Z2, e2, bd, od, dc, h1, h2, h3, Nat.lt_of_lt_of_le HG3.out h4, h5⟩
          have HFI : Hid (∀ i, i < n → (fallL (wei ps) i N : Int) = ((1 + ps[i]?.getD 0 % 9 : Nat) : Int)) := Lib.hid fun i hi => fall_wei ps N HSN.out i (by rw [HN.out]; exact hi)
          clear hrows hb4 HALL HCS HK HG3 HBA HMO HSC HMN HS3 HSB HXA HX3 HO HXL HX2 HXR HG HT hmk hss hlt hi
          generalize wr.heap.size = gC at *
          go_loopw [94] (fun iv wz => ∃ u : Nat, u ≤ N ∧ iv = .int .i64 u ∧ Hid (wz.ownsRow gC 3 1 (.slice (some ⟨gC, 0, none⟩) n n) n ((cntL (wei ps) n u).map I64)) ∧ Hid (Keeps (fun b => b = gC) w4 wz)) (fun iv _ => N - (intOf iv).toNat)
          case atStart => exact ⟨0, Nat.zero_le _, rfl, HC4, Lib.hid (Keeps.refl _ _)⟩
          case round =>
            obtain ⟨u, hu, rfl, HO, HK⟩ := hrel
            by_cases hlt : u < N
            · obtain ⟨pl, Z1, e1, Z2, e2, bd, od, dc, hpn, hpl, hrg, hbd, hcd⟩ := HRW.out u hlt
              have HRG : Hid (wr.rangeAt b4 (o4 + u * 8) (resC pl Z1 e1 Z2 e2 (some ⟨bd, od, none⟩) dc).toList) := Lib.hid fun j v hv => HK.out.cell (by have := HB4.out; show ¬ b4 = gC; omega) (hrg j v hv)
              have hcr : wr.cell? ⟨bd, od, none⟩ = some (.int .i64 pl) := HK.out.cell (by show ¬ bd = gC; omega) hcd
              have HSC : Hid (cntL (wei ps) n (u + 1) = (cntL (wei ps) n u).set pl ((fallL (wei ps) pl u : Int) + 1)) := Lib.hid (cnt_succ (wei ps) n u pl hpl hpn)
              have cw := HO.out.cellAt pl (by simpa using hpn)
              rw [List.getElem?_map, cnt_get _ _ _ _ hpn] at cw
              have fw := HO.out.frozenAt pl
              have hfl := fall_le (wei ps) pl u
              have hfl2 : (fallL (wei ps) pl u : Int) ≤ 8000 := by omega
              have hgl := (HO.out.lt gC rfl).2
              have HPN := Lib.hid hpn
              have q1 : ¬ (pl : Int) < 0 := by omega
              have q2 : ¬ (n : Int) ≤ pl := by omega
              have q3 : (pl : Int) < n := by omega
              have HWV := Lib.hid (ext_al wr (.cells (resC pl Z1 e1 Z2 e2 (some ⟨bd, od, none⟩) dc) 39))
              have HBV := Lib.hid (Blk.new wr (resC pl Z1 e1 Z2 e2 (some ⟨bd, od, none⟩) dc) 39)
              generalize hfe : fallL (wei ps) pl u = fu at *
              clear hfl hrg hcd hfe hpl hbd
              go_upto_region 26 with (refine wpList_load_mid rfl 39 _ rfl _ _ rfl _ _ HRG.out Tryz.underlying39 rfl info8R ?_)
              have cw1 : wr.cell? ⟨gC, pl, none⟩ = some (.int .i64 (fu : Int)) := cw
              generalize hwv : wr.alloc (.cells (resC pl Z1 e1 Z2 e2 (some ⟨bd, od, none⟩) dc) 39) = wV at *
              generalize wr.heap.size = rb at *
              have hv2 : wV.cell? ⟨rb, 2, none⟩ = some (.int .i64 pl) := HBV.out.cell 2
              have hv6 : wV.cell? ⟨rb, 6, none⟩ = some (.slice (some ⟨bd, od, none⟩) 1 dc) := HBV.out.cell 6
              have hcv := HWV.out.cell' hcr
              have hod := own_ext HO.out (HWV.out.drewN' 1)
              have cwd : wV.drew.cell? ⟨gC, pl, none⟩ = some (.int .i64 (fu : Int)) := HWV.out.cell' cw1
              have hvd : wV.drew.cell? ⟨rb, 2, none⟩ = some (.int .i64 pl) := hv2
              have fwv := (own_ext HO.out HWV.out).frozenAt pl
              have hst := hod.stored pl (I64 ((fu : Int) + 1))
              rw [← List.map_set, ← HSC.out] at hst
              have HST := Lib.hid hst.1
              clear hcr cw cw1 fw hwv HRG hod hst
              unfold I64 at HST
              go_region
              all_goals
                go_wp2_with fail
                go_roundw
                case rel => exact ⟨u + 1, hlt, by go_num, HST, Lib.hid (((HK.out.trans (Keeps.of_ext HWV.out)).drewN 1).setCell (p := ⟨gC, pl, none⟩) rfl _)⟩
                case measure => simp [intOf]; omega
            · have huN : N = u := by omega
              subst huN
              have HXF : Hid (Ext w wr) := Lib.hid (Keeps.below HX4.out HK.out fun k hk e => by have h1 : k = gC := e; have := HGC.out; omega)
              clear HRW HC4 HB4 HX4 HK hlt hu
              go_wp2_with fail
              go_loopw [137] (fun iv wz => ∃ i : Nat, i ≤ n ∧ iv = .int .i64 i ∧ Hid (wz.ownsRow gC 3 1 (.slice (some ⟨gC, 0, none⟩) n n) n ((cntL (wei ps) n N).map I64)) ∧ Hid (Ext w wz)) (fun iv _ => n - (intOf iv).toNat)
              case atStart => exact ⟨0, Nat.zero_le _, rfl, HO, HXF⟩
              case round =>
                obtain ⟨i, hi, rfl, HOI, HXI⟩ := hrel
                by_cases hlt : i < n
                · have hq := HXI.out.cell' (HCELL.out i hlt)
                  have hx255 := HPB.out i hlt
                  have hf := HFI.out i hlt
                  have cw := HOI.out.cellAt i (by simpa using hlt)
                  rw [List.getElem?_map, cnt_get _ _ _ _ hlt, Option.map_some] at cw
                  have cw1 : wr.cell? ⟨gC, i, none⟩ = some (.int .i64 (fallL (wei ps) i N : Int)) := cw
                  generalize ps[i]?.getD 0 = x at *
                  obtain ⟨y, hy⟩ : ∃ y, x % 9 = y := ⟨_, rfl⟩
                  rw [hy] at hf
                  have hy1 : (x : Int).tmod 9 = (y : Nat) := by
                    show ((x : Int).tmod ((9 : Nat) : Int)) = _
                    rw [← Int.ofNat_tmod, hy]
                  have hy2 : y < 9 := by omega
                  obtain ⟨q, hq2⟩ : ∃ q, 1 + y = q := ⟨_, rfl⟩
                  have hq1 : (1 : Int) + (y : Nat) = (q : Nat) := by omega
                  rw [hf, hq2] at cw1
                  clear hf cw hy hq2
                  go_wp2_with fail
                  go_roundw
                  case rel => exact ⟨i + 1, hlt, by go_num, HOI, HXI⟩
                  case measure => simp [intOf]; omega
                · have hiN : n = i := by omega
                  subst hiN
                  go_wp2_with fail
                  exact hR.out _ _ ⟨rfl, HXI.out⟩
end Go.Proofs.YtmhdcnaibleihaaGreatDoor

/- A law's row, out of 'it returns true, and all that was there is as it was'. -/
namespace Go.Proofs.YtmhdcnaibleihaaGreatDoor
set_option maxRecDepth 100000
open Go.ChangeShapes Go.WideShapes Go.ChangeAt Go.RowKit Go.Joins
set_option linter.unusedVariables false
set_option linter.unusedSimpArgs false

theorem ownK : ownKnob Tryz.prog.godebug = none := by kernel_rfl
theorem laidOutK : laidOutB Tryz.prog = true := by kernel_rfl

theorem trodAll_stays {H : Type} {enc : TypeId × Value → H} {P : Program} (hl : laidOutB P = true) {W W' : World} (sp : Nat → Bool) : ∀ {ts : List TypeId} {vs : List Value} {ds : List (DataW H)} {ps : List MemPlace},
    (∀ t ∈ ts, P.readableRec t = true ∧ t < P.types.size) → DataW.TrodAll enc P W 0 (fun _ => true) true ts vs ds ps → (∀ x ∈ ps, W.sameAt W' x) → (∀ x ∈ ps, sp x.block = true) →
    DataW.TrodAll enc P W' 0 sp true ts vs ds ps
  | [], [], [], _, _, h, _, _ => h
  | t :: ts, v :: vs, d :: ds, ps, ht, h, hsame, hs => by
    obtain ⟨p, q, h1, h2, rfl⟩ := h
    exact ⟨p, q, WideElems.Trod_stays hl (ht t (by simp)).1 (ht t (by simp)).2 h1 (fun x hx => hsame x (by simp [hx])) (fun x hx => hs x (by simp [hx])),
      trodAll_stays hl sp (fun t' h' => ht t' (by simp [h'])) h2 (fun x hx => hsame x (by simp [hx])) (fun x hx => hs x (by simp [hx])), rfl⟩
  | [], _ :: _, _, _, _, h, _, _ => by cases h
  | [], [], _ :: _, _, _, h, _, _ => by cases h
  | _ :: _, [], _, _, _, h, _, _ => by cases h
  | _ :: _, _ :: _, [], _, _, h, _, _ => by cases h

theorem law_post {H : Type} {enc : TypeId × Value → H} {f : Func} {s : ChangeSpec} {fresh : Bool} {W W' : World} {args : Array Value} {ds : List (DataW H)} {before : List MemPlace}
    (hW : DataW.Whole enc Tryz.prog f.params.toList s.vars false W args.toList ds [] before) (hv : s.vars = []) (hb : Ext W W') (hres : f.resultTypes = #[4])
    (hp : ∀ t ∈ f.params.toList, Tryz.prog.readableRec t = true ∧ t < Tryz.prog.types.size)
    (hfn : s.fn H (ds ++ []) = { results := [.lit (.bool true)], args := ds }) : s.post enc Tryz.prog f false fresh false false W args (.bool true) W' := by
  have hlt : ∀ p ∈ before, p.block < W.heap.size := fun p hp => hW.lt p hp
  have hW0 := hW
  obtain ⟨p, q, hA, hV, rfl, hz, hn⟩ := hW
  rw [hv] at hV
  obtain ⟨_, hq⟩ := trodVars_none hV
  subst hq
  simp only [List.append_nil] at hlt hW0
  refine ⟨ds, [], p, [], p, [], hW0, ?_, ?_, ?_, World.keptBut_mono (fun x hx => ⟨hx, .inr (.inl hx)⟩) (hb.frame (· ∈ p)), fun h => by cases h⟩
  · rw [hfn, hres]
    exact trodAll_mk1 (shut_bool Tryz.underlying4 _)
  · rw [hfn]
    exact trodAll_stays laidOutK _ hp hA (fun x hx => hb.same (hlt x hx)) (fun x hx => by simpa using hlt x hx)
  · rw [hv, hfn]
    rfl
end Go.Proofs.YtmhdcnaibleihaaGreatDoor
