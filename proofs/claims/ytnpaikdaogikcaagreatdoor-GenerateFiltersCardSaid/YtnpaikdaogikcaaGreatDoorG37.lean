/- GenerateFilters: the plain law: the first number that passes; a script of one's own. -/
import Derived.Test.YtnpaikdaogikcaaGreatDoorG32
import Derived.Test.YtnpaikdaogikcaaGreatDoorG36
import Derived.Deep.RegionWith
import Derived.Deep.RegionHeld3
import Derived.BigQuiet
import Derived.Deep.OwnRows
import Derived.Test.YtnpaikdaogikcaaGreatDoorG01
import Derived.ProofKit
import Derived.OpenShut
import Derived.Lib.SmallJoins

namespace Go.Proofs.YtnpaikdaogikcaaGreatDoor
set_option maxRecDepth 100000
open Go.RowKit
set_option linter.unusedVariables false
set_option linter.unusedSimpArgs false

/-- The numbers of the script. -/
def scr (ps : List Nat) : List Int := ps.map fun x => ((x % 100 : Nat) : Int)
theorem scr_len (ps : List Nat) : (scr ps).length = ps.length := by simp [scr]
theorem scr_take (ps : List Nat) (k : Nat) (h : k < ps.length) : scr (ps.take (k + 1)) = scr (ps.take k) ++ [((ps[k]?.getD 0 % 100 : Nat) : Int)] := by
  unfold scr
  rw [List.take_add_one, List.map_append, List.getElem?_eq_getElem h]
  rfl
theorem scr_in (ps : List Nat) : ∀ x ∈ scr ps, 0 ≤ x ∧ x < 100 := by
  intro x hx
  obtain ⟨p, _, rfl⟩ := List.mem_map.1 hx
  omega
theorem told_scr (ps : List Nat) (i : Nat) : toldAt (scr ps) i = ((ps[i]?.getD 0 % 100 : Nat) : Int) := by
  unfold toldAt scr
  rw [List.getElem?_map]
  cases ps[i]? <;> simp
theorem passes_nat (n : Nat) : passes (n : Int) = decide (n % 5 = 0) := by
  unfold passes
  have e : ((n : Int).tmod 5 = 0) = (n % 5 = 0) := by
    have h : (n : Int).tmod 5 = ((n % 5 : Nat) : Int) := by
      show ((n : Int).tmod ((5 : Nat) : Int)) = _
      rw [← Int.ofNat_tmod]
    rw [h]
    exact propext ⟨fun h => by omega, fun h => by omega⟩
  simp only [e]
/-- The first of k numbers that passes, or how many there are. -/
def FirstAt (ps : List Nat) (k f : Nat) : Prop := (f = ps.length ∧ ∀ j, j < k → ps[j]?.getD 0 % 100 % 5 ≠ 0) ∨ (f < k ∧ ps[f]?.getD 0 % 100 % 5 = 0 ∧ ∀ j, j < f → ps[j]?.getD 0 % 100 % 5 ≠ 0)
theorem FirstAt.zero (ps : List Nat) : FirstAt ps 0 ps.length := .inl ⟨rfl, fun j h => by omega⟩
theorem FirstAt.stay {ps : List Nat} {k f : Nat} (h : FirstAt ps k f) (hn : ps[k]?.getD 0 % 100 % 5 ≠ 0 ∨ f < k) : FirstAt ps (k + 1) f := by
  rcases h with ⟨h1, h2⟩ | ⟨h1, h2, h3⟩
  · rcases hn with hn | hn
    · refine .inl ⟨h1, fun j hj => ?_⟩
      by_cases e : j = k
      · rw [e]; exact hn
      · exact h2 j (by omega)
    · refine .inl ⟨h1, fun j hj => ?_⟩
      by_cases e : j < k
      · exact h2 j e
      · rw [List.getElem?_eq_none (by omega)] at *
        have : ps[f]?.getD 0 % 100 % 5 ≠ 0 := h2 f (by omega)
        rw [List.getElem?_eq_none (by omega)] at this
        exact this
  · exact .inr ⟨by omega, h2, h3⟩
theorem FirstAt.hit {ps : List Nat} {k : Nat} (h : FirstAt ps k ps.length) (hk : k < ps.length) (hz : ps[k]?.getD 0 % 100 % 5 = 0) : FirstAt ps (k + 1) k := by
  rcases h with ⟨_, h2⟩ | ⟨h1, _, _⟩
  · exact .inr ⟨by omega, hz, h2⟩
  · omega
theorem FirstAt.le {ps : List Nat} {k f : Nat} (h : FirstAt ps k f) (hk : k ≤ ps.length) : f ≤ ps.length ∧ (f < ps.length → f < k) := by
  rcases h with ⟨h1, h2⟩ | ⟨h1, h2, h3⟩ <;> omega
theorem first_law {ps : List Nat} {f : Nat} (h : FirstAt ps ps.length f) : passes (toldAt (scr ps) f) = true ∧ ∀ i, i < f → passes (toldAt (scr ps) i) = false := by
  have hp : ∀ i, passes (toldAt (scr ps) i) = decide (ps[i]?.getD 0 % 100 % 5 = 0) := fun i => by rw [told_scr, passes_nat]
  rcases h with ⟨h1, h2⟩ | ⟨h1, h2, h3⟩
  · refine ⟨?_, fun i hi => ?_⟩
    · rw [hp, List.getElem?_eq_none (by omega)]; rfl
    · rw [hp]; exact decide_eq_false (h2 i (by omega))
  · refine ⟨?_, fun i hi => ?_⟩
    · rw [hp]; exact decide_eq_true h2
    · rw [hp]; exact decide_eq_false (h3 i hi)
theorem drawn_of {ps : List Nat} {f many : Nat} {e : Ending} (h : FirstAt ps ps.length f) (hd : DrawnF (scr ps) many e) :
    (f < many → ∃ Z1 e1 Z2 e2 D dc, e = .returned (.tuple #[.agg (resC ((ps[f]?.getD 0 % 100 : Nat) : Int) Z1 e1 Z2 e2 D dc), .int .i64 ((f : Int) + 1), .int .i64 0])) ∧ (many ≤ f → e = .returned (.tuple #[.agg zero8r, .int .i64 0, .int .i64 20])) := by
  obtain ⟨h1, h2⟩ := first_law h
  rcases hd with ⟨k, hk, hlo, hp, hz⟩ | ⟨hno, hz⟩
  · have e : k = f := by
      rcases Nat.lt_trichotomy k f with q | q | q
      · have := h2 k q; rw [hp] at this; cases this
      · exact q
      · have := hlo f q; rw [h1] at this; cases this
    subst e
    rw [told_scr] at hz
    exact ⟨fun _ => hz, fun h => by omega⟩
  · refine ⟨fun h => ?_, fun _ => hz⟩
    have := hno f h
    rw [h1] at this
    cases this
theorem scriptT0 (w : World) :
    Calls Tryz.prog 7 #[.slice none 0 0] w fun e w' => (∃ sb, e = .returned (.iface 58 (.pointer (some ⟨sb, 0, none⟩))) ∧ w.heap.size ≤ sb ∧ Src w' sb 0 []) ∧ Ext w w' := by
  refine of_post fun R hR => ?_
  have HC := Lib.hid (cloneNil w)
  go_enter Tryz.func7, Tryz.ntmps7
  go_wp2_with (go_at_call 13; refine HC.out.mono ?_; rintro e w2 ⟨rfl, hx2⟩; have HX := Lib.hid hx2; clear hx2)
  exact hR.out _ _ ⟨⟨w2.heap.size, rfl, HX.out.size, none, 0, Blk.new w2 _ _, CellsAt.nil _ _, fun b o e => by cases e⟩, HX.out.trans' (ext_al _ _)⟩
/-- A script of one's own. -/
theorem scriptA (v : Value) (xs : List Int) (w : World) (g : Nat) (hv : w.ownsRow g 3 1 v xs.length (xs.map I64)) (h0 : xs = [] → v = .slice none 0 0) (hx : xs.length ≤ 10000) :
    Calls Tryz.prog 7 #[v] w fun e w' => (∃ sb, e = .returned (.iface 58 (.pointer (some ⟨sb, 0, none⟩))) ∧ w.heap.size ≤ sb ∧ Src w' sb 0 xs) ∧ Ext w w' := by
  by_cases hn : xs = []
  · rw [h0 hn, hn]; exact scriptT0 w
  · obtain ⟨A, c, rfl⟩ := own_form hv
    exact scriptT A xs c w (cellsAt_of_own hv) hn hx
end Go.Proofs.YtnpaikdaogikcaaGreatDoor

/- GenerateFilters: the law's walk. -/
namespace Go.Proofs.YtnpaikdaogikcaaGreatDoor
set_option maxRecDepth 100000
open Go.RowKit
set_option linter.unusedVariables false
set_option linter.unusedSimpArgs false

set_option maxHeartbeats 8000000 in
theorem filters_any (A : Option Addr) (ps : List Nat) (cap : Nat) (tr : Nat) (w : World) (hA : CellsAt w A (ps.map U8n)) (hc : ps.length ≤ cap) (hcm : cap ≤ maxLen) (hb : ∀ p ∈ ps, p ≤ 255) (htr : tr ≤ 255) :
    Calls Tryz.prog 3 #[.slice A ps.length cap, .int .u8 tr] w fun e w' => e = .returned (.bool true) ∧ Ext w w' := by
  refine of_post fun R hR => ?_
  have HAW := fun W => Lib.hid (awake19 W)
  by_cases h30 : 30 < ps.length
  · have h30' : (30 : Int) < ps.length := by omega
    generalize ps.length = n at *
    clear hA hb htr
    go_enter Tryz.func3, Tryz.ntmps3
    go_wp2_with (first
      | (go_at_call 4; (with_reducible refine (HAW w).out.mono ?_); rintro e w1 ⟨rfl, hx⟩; have HX1 := Lib.hid hx; clear hx)
      | (go_at_call 4; refine (HAW _).out.mono ?_; rintro e w2 ⟨rfl, hx⟩; have HX2 := Lib.hid (HX1.out.trans' hx); clear hx))
    exact hR.out _ _ ⟨rfl, HX2.out⟩
  have h30' : ¬ (30 : Int) < ps.length := by omega
  have H30 : Hid (ps.length ≤ 30) := Lib.hid (by omega)
  have HA := Lib.hid hA
  have HPB : Hid (∀ k, k < ps.length → ps[k]?.getD 0 ≤ 255) := Lib.hid fun k h => by rw [List.getElem?_eq_getElem h]; exact hb _ (List.getElem_mem h)
  have HRD := fun W => Lib.hid (read19 W)
  have HST := Lib.hid (scr_take ps)
  have HCL : Hid (∀ (a : Option Addr) (b o : Nat), True) := Lib.hid fun _ _ _ => trivial
  obtain ⟨m, hm⟩ : ∃ m, tr % 40 = m := ⟨_, rfl⟩
  have ht1 : (tr : Int).tmod 40 = (m : Nat) := by
    show ((tr : Int).tmod ((40 : Nat) : Int)) = _
    rw [← Int.ofNat_tmod, hm]
  have ht2 : m < 40 := by omega
  obtain ⟨q, hq⟩ : ∃ q, 1 + m = q := ⟨_, rfl⟩
  have ht3 : (1 : Int) + (m : Nat) = (q : Nat) := by omega
  have HQ : Hid (1 ≤ q ∧ q ≤ 1000) := Lib.hid (by omega)
  generalize hn : ps.length = n at *
  have HN := Lib.hid hn
  clear hA hb h30 hm hq htr hn
  go_enter Tryz.func3, Tryz.ntmps3
  go_wp2_with (first
    | (go_at_call 4; go_loud (refine (HAW w).out.mono ?_; rintro e w1 ⟨rfl, hx⟩; have HX1 := Lib.hid hx; clear hx))
    | (go_at_call 5; refine (HRD _).out.mono ?_; rintro e w2 ⟨⟨gb, ts, rfl, hg, hT⟩, hx⟩; have HG := Lib.hid hg; have HT := Lib.hid hT; have HX2 := Lib.hid (HX1.out.trans' hx); clear hg hT hx))
  go_loopw [40, 8, 9] (fun iv sv fv wr => ∃ k f : Nat, k ≤ n ∧ iv = .int .i64 k ∧ fv = .int .i64 f ∧ Hid (FirstAt ps k f) ∧ Hid (wr.ownsRow w2.heap.size 3 1 sv k ((scr (ps.take k)).map I64)) ∧ Hid (k = 0 → sv = .slice none 0 0) ∧ Hid (Ext w2 wr)) (fun iv _ _ _ => n - (intOf iv).toNat)
  case atStart => exact ⟨0, n, Nat.zero_le _, rfl, rfl, Lib.hid (by have := FirstAt.zero ps; rw [HN.out] at this; exact this), Lib.hid (own_nil w2 w2 _ _), Lib.hid (fun _ => rfl), Lib.hid (Ext.refl' _)⟩
  case round =>
    obtain ⟨k, f, hk, rfl, rfl, HF, HO, HZ, HXL⟩ := hrel
    obtain ⟨C, cc, rfl⟩ := own_form HO.out
    by_cases hlt : k < n
    · obtain ⟨b, o, rfl, hcell⟩ := HA.out (by intro e; rw [List.map_eq_nil_iff] at e; have := HN.out; rw [e] at this; simp at this; omega)
      have hkl : k < ps.length := by rw [HN.out]; exact hlt
      have hq := (HX2.out.trans' HXL.out).cell' (hcell k (.int .u8 (ps[k]?.getD 0 : Nat)) (by rw [List.getElem?_map, List.getElem?_eq_getElem hkl]; rfl))
      have hx255 := HPB.out k hlt
      have HSK := Lib.hid (HST.out k hlt)
      have HFL := Lib.hid (FirstAt.le HF.out (by rw [HN.out]; exact hk))
      rw [HN.out] at HFL
      have HFS := Lib.hid (FirstAt.stay HF.out)
      have HFH := Lib.hid (fun (e : f = n) => FirstAt.hit (by have := HF.out; rw [e, ← HN.out] at this; exact this) hkl)
      have hfk := HFL.out.1
      have hfk2 := HFL.out.2
      clear hcell hkl
      generalize ps[k]?.getD 0 = x at *
      obtain ⟨y, hy⟩ : ∃ y, x % 100 = y := ⟨_, rfl⟩
      rw [hy] at HSK HFS HFH
      obtain ⟨z, hz⟩ : ∃ z, y % 5 = z := ⟨_, rfl⟩
      rw [hz] at HFS HFH
      have hy1 : (x : Int).tmod 100 = (y : Nat) := by
        show ((x : Int).tmod ((100 : Nat) : Int)) = _
        rw [← Int.ofNat_tmod, hy]
      have hz1 : ((y : Nat) : Int).tmod 5 = (z : Nat) := by
        show ((y : Int).tmod ((5 : Nat) : Int)) = _
        rw [← Int.ofNat_tmod, hz]
      have hy2 : y < 100 := by omega
      have hz2 : z < 5 := by omega
      have HON : Hid (∀ u ∈ (#[.int .i64 (y : Int)] : Array Value).toList, u.oneCell' = true) := Lib.hid (fun u hu => by simp at hu; subst hu; rfl)
      clear hy hz
      by_cases hz0 : z = 0
      · subst hz0
        by_cases hfn : k < f
        · have hfe : f = n := by omega
          have hfn2 : (k : Int) < f := by omega
          go_wp2_with (at_builtin; go_must (refine wpList_push _ rfl _ _ 28 rfl w2 3 (.int .i64 0) 1 8 Tryz.underlying28 infoIntG rfl (by decide) #[.int .i64 (y : Int)] rfl (.slice C k cc) k ((scr (ps.take k)).map I64) rfl HO.out HON.out rfl (by omega) (by decide) HXL.out ?_); intro u' w3 HO3 HX4 HPU)
          go_roundw
          case rel => exact ⟨k + 1, k, hlt, by go_num, rfl, Lib.hid (HFH.out hfe rfl), Lib.hid (by have := HO3.out; rw [HSK.out, List.map_append]; exact this), Lib.hid (fun e => by omega), HX4⟩
          case measure => simp [intOf]; omega
        · have hfn2 : ¬ (k : Int) < f := by omega
          have hfe : f < k := by omega
          go_wp2_with (at_builtin; go_must (refine wpList_push _ rfl _ _ 28 rfl w2 3 (.int .i64 0) 1 8 Tryz.underlying28 infoIntG rfl (by decide) #[.int .i64 (y : Int)] rfl (.slice C k cc) k ((scr (ps.take k)).map I64) rfl HO.out HON.out rfl (by omega) (by decide) HXL.out ?_); intro u' w3 HO3 HX4 HPU)
          go_roundw
          case rel => exact ⟨k + 1, f, hlt, by go_num, rfl, Lib.hid (HFS.out (.inr hfe)), Lib.hid (by have := HO3.out; rw [HSK.out, List.map_append]; exact this), Lib.hid (fun e => by omega), HX4⟩
          case measure => simp [intOf]; omega
      · have hz3 : (((z : Nat) : Int) == 0) = false := by rw [beq_eq_false_iff_ne]; omega
        have hz4 : ¬ ((z : Nat) : Int) = 0 := by omega
        go_wp2_with (at_builtin; go_must (refine wpList_push _ rfl _ _ 28 rfl w2 3 (.int .i64 0) 1 8 Tryz.underlying28 infoIntG rfl (by decide) #[.int .i64 (y : Int)] rfl (.slice C k cc) k ((scr (ps.take k)).map I64) rfl HO.out HON.out rfl (by omega) (by decide) HXL.out ?_); intro u' w3 HO3 HX4 HPU)
        go_roundw
        case rel => exact ⟨k + 1, f, hlt, by go_num, rfl, Lib.hid (HFS.out (.inl hz0)), Lib.hid (by have := HO3.out; rw [HSK.out, List.map_append]; exact this), Lib.hid (fun e => by omega), HX4⟩
        case measure => simp [intOf]; omega
    · have hkn : k = n := by omega
      subst hkn
      have htk : ps.take k = ps := List.take_of_length_le (by rw [HN.out]; exact Nat.le_refl _)
      rw [htk] at HO
      have hlen : (scr ps).length = k := by rw [scr_len, HN.out]
      have HSC := Lib.hid (scriptA (.slice C k cc) (scr ps) wr w2.heap.size (by rw [hlen]; exact HO.out) (fun e => HZ.out (by rw [← hlen, e]; rfl)) (by rw [hlen]; have := H30.out; omega))
      have HDR := Lib.hid (fun (sb : Nat) (W : World) (hx : Ext w2 W) (hsb : w2.heap.size ≤ sb) (hs : Src W sb 0 (scr ps)) => drawF gb sb (scr ps) w2 [97] ts HT.out 9 q W hx hsb HG.out (by decide) hs (by decide) (by decide) (by rw [hlen]; have := H30.out; omega) (scr_in ps) HQ.out.1 HQ.out.2)
      have HFL := Lib.hid (FirstAt.le HF.out (by rw [HN.out]; exact hk))
      rw [HN.out] at HFL
      have HFF : Hid (∀ e, DrawnF (scr ps) q e → (f < q → ∃ Z1 e1 Z2 e2 D dc, e = .returned (.tuple #[.agg (resC ((ps[f]?.getD 0 % 100 : Nat) : Int) Z1 e1 Z2 e2 D dc), .int .i64 ((f : Int) + 1), .int .i64 0])) ∧ (q ≤ f → e = .returned (.tuple #[.agg zero8r, .int .i64 0, .int .i64 20]))) := Lib.hid fun e hd => drawn_of (by have := HF.out; rw [← HN.out] at this; exact this) hd
      have hfk := HFL.out.1
      clear htk hlen
      by_cases hfq : f < q
      · have hfq2 : ¬ (q : Int) ≤ f := by omega
        have hf31 : (f : Int) ≤ 30 := by have := H30.out; have := HN.out; omega
        obtain ⟨v, hv⟩ : ∃ v, ((ps[f]?.getD 0 % 100 : Nat) : Int) = v := ⟨_, rfl⟩
        have HSF : Hid (∀ h : f < (scr ps).length, (scr ps)[f] = v) := Lib.hid (fun h => by
          have h1 := told_scr ps f
          rw [hv] at h1
          rw [← h1]
          unfold toldAt
          rw [List.getElem?_eq_getElem h]; rfl)
        rw [hv] at HFF
        by_cases hfn : f < k
        · have hfn2 : (f : Int) < k := by omega
          have hsl : f < (scr ps).length := by rw [scr_len, HN.out]; exact hfn
          obtain ⟨bs, os, rfl, hsc⟩ := (cellsAt_of_own HO.out) (by intro e; rw [List.map_eq_nil_iff] at e; rw [e] at hsl; simp at hsl)
          have HCF : Hid (wr.cell? ⟨bs, os + f, none⟩ = some (.int .i64 v)) := Lib.hid (hsc f _ (by rw [List.getElem?_map, List.getElem?_eq_getElem hsl, HSF.out hsl]; rfl))
          clear hsc hsl hv
          go_upto_region 17 with (first
            | (go_at_call 7; refine HSC.out.mono ?_; rintro e w3 ⟨⟨sb, rfl, hsb, hs⟩, hx⟩; have HSB := Lib.hid hsb; have HS3 := Lib.hid hs; have HX3 := Lib.hid hx; clear hsb hs hx)
            | (go_at_call 6; refine (HDR.out sb w3 (HXL.out.trans' HX3.out) (Nat.le_trans HXL.out.size HSB.out) HS3.out).mono ?_; rintro e w4 ⟨hd, hk⟩; obtain ⟨Z1, e1, Z2, e2, D, dc, rfl⟩ := (HFF.out e hd).1 hfq; have HK := Lib.hid hk; clear hd hk))
          have HX34 : Hid (Ext wr w4) := Lib.hid (Keeps.below HX3.out HK.out fun k hk e => by
            have h1 : k = sb := e
            have := HSB.out
            omega)
          have HXF := Lib.hid (ext_al w4 (.cells (resC v Z1 e1 Z2 e2 D dc) 34))
          have HBV := Lib.hid (Blk.new w4 (resC v Z1 e1 Z2 e2 D dc) 34)
          have hcf := HXF.out.cell' (HX34.out.cell' HCF.out)
          have hcv : (w4.alloc (.cells (resC v Z1 e1 Z2 e2 D dc) 34)).cell? ⟨w4.heap.size, 2, none⟩ = some (.int .i64 v) := HBV.out.cell 2
          go_wp2_with fail
          exact hR.out _ _ ⟨rfl, (HX2.out.trans' (HXL.out.trans' HX34.out)).trans' HXF.out⟩
        · have hfn2 : ¬ (f : Int) < k := by omega
          have hv0 : v = 0 := by
            rw [← hv, List.getElem?_eq_none (by rw [HN.out]; omega)]; rfl
          subst hv0
          clear hv
          go_upto_region 17 with (first
            | (go_at_call 7; refine HSC.out.mono ?_; rintro e w3 ⟨⟨sb, rfl, hsb, hs⟩, hx⟩; have HSB := Lib.hid hsb; have HS3 := Lib.hid hs; have HX3 := Lib.hid hx; clear hsb hs hx)
            | (go_at_call 6; refine (HDR.out sb w3 (HXL.out.trans' HX3.out) (Nat.le_trans HXL.out.size HSB.out) HS3.out).mono ?_; rintro e w4 ⟨hd, hk⟩; obtain ⟨Z1, e1, Z2, e2, D, dc, rfl⟩ := (HFF.out e hd).1 hfq; have HK := Lib.hid hk; clear hd hk))
          have HX34 : Hid (Ext wr w4) := Lib.hid (Keeps.below HX3.out HK.out fun k hk e => by
            have h1 : k = sb := e
            have := HSB.out
            omega)
          have HXF := Lib.hid (ext_al w4 (.cells (resC 0 Z1 e1 Z2 e2 D dc) 34))
          have HBV := Lib.hid (Blk.new w4 (resC 0 Z1 e1 Z2 e2 D dc) 34)
          have hcv : (w4.alloc (.cells (resC 0 Z1 e1 Z2 e2 D dc) 34)).cell? ⟨w4.heap.size, 2, none⟩ = some (.int .i64 0) := HBV.out.cell 2
          go_wp2_with fail
          exact hR.out _ _ ⟨rfl, (HX2.out.trans' (HXL.out.trans' HX34.out)).trans' HXF.out⟩
      · have hfq2 : (q : Int) ≤ f := by omega
        have hfq3 : q ≤ f := by omega
        go_wp2_with (first
          | (go_at_call 7; refine HSC.out.mono ?_; rintro e w3 ⟨⟨sb, rfl, hsb, hs⟩, hx⟩; have HSB := Lib.hid hsb; have HS3 := Lib.hid hs; have HX3 := Lib.hid hx; clear hsb hs hx)
          | (go_at_call 6; refine (HDR.out sb w3 (HXL.out.trans' HX3.out) (Nat.le_trans HXL.out.size HSB.out) HS3.out).mono ?_; rintro e w4 ⟨hd, hk⟩; obtain rfl := (HFF.out e hd).2 hfq3; have HK := Lib.hid hk; clear hd hk))
        refine hR.out _ _ ⟨rfl, (Keeps.below (HX2.out.trans' (HXL.out.trans' HX3.out)) HK.out fun k hk e => ?_).trans' (ext_al _ _)⟩
        have h1 : k = sb := e
        have := HSB.out
        have := HXL.out.size
        have := HX2.out.size
        omega
end Go.Proofs.YtnpaikdaogikcaaGreatDoor

/- A law's row, out of 'it returns true, and all that was there is as it was'. -/
namespace Go.Proofs.YtnpaikdaogikcaaGreatDoor
set_option maxRecDepth 100000
open Go.ChangeShapes Go.WideShapes Go.ChangeAt Go.RowKit Go.Joins
set_option linter.unusedVariables false
set_option linter.unusedSimpArgs false

theorem ownK : ownKnob Tryz.prog.godebug = none := by kernel_rfl
theorem laidOutK : laidOutB Tryz.prog = true := by kernel_rfl

theorem trodAll_stays {H : Type} {enc : TypeId × Value → H} {P : Program} (hl : laidOutB P = true) {W W' : World} (sp : Nat → Bool) : ∀ {ts : List TypeId} {vs : List Value} {ds : List (DataW H)} {ps : List MemPlace},
    (∀ t ∈ ts, P.readableRec t = true ∧ t < P.types.size) → DataW.TrodAll enc P W 0 (fun _ => true) true ts vs ds ps → (∀ x ∈ ps, W.sameAt W' x) → (∀ x ∈ ps, sp x.block = true) →
    DataW.TrodAll enc P W' 0 sp true ts vs ds ps
  | [], [], [], _, _, h, _, _ => h
  | t :: ts, v :: vs, d :: ds, ps, ht, h, hsame, hs => by
    obtain ⟨p, q, h1, h2, rfl⟩ := h
    exact ⟨p, q, WideElems.Trod_stays hl (ht t (by simp)).1 (ht t (by simp)).2 h1 (fun x hx => hsame x (by simp [hx])) (fun x hx => hs x (by simp [hx])),
      trodAll_stays hl sp (fun t' h' => ht t' (by simp [h'])) h2 (fun x hx => hsame x (by simp [hx])) (fun x hx => hs x (by simp [hx])), rfl⟩
  | [], _ :: _, _, _, _, h, _, _ => by cases h
  | [], [], _ :: _, _, _, h, _, _ => by cases h
  | _ :: _, [], _, _, _, h, _, _ => by cases h
  | _ :: _, _ :: _, [], _, _, h, _, _ => by cases h

theorem law_post {H : Type} {enc : TypeId × Value → H} {f : Func} {s : ChangeSpec} {fresh : Bool} {W W' : World} {args : Array Value} {ds : List (DataW H)} {before : List MemPlace}
    (hW : DataW.Whole enc Tryz.prog f.params.toList s.vars false W args.toList ds [] before) (hv : s.vars = []) (hb : Ext W W') (hres : f.resultTypes = #[4])
    (hp : ∀ t ∈ f.params.toList, Tryz.prog.readableRec t = true ∧ t < Tryz.prog.types.size)
    (hfn : s.fn H (ds ++ []) = { results := [.lit (.bool true)], args := ds }) : s.post enc Tryz.prog f false fresh false false W args (.bool true) W' := by
  have hlt : ∀ p ∈ before, p.block < W.heap.size := fun p hp => hW.lt p hp
  have hW0 := hW
  obtain ⟨p, q, hA, hV, rfl, hz, hn⟩ := hW
  rw [hv] at hV
  obtain ⟨_, hq⟩ := trodVars_none hV
  subst hq
  simp only [List.append_nil] at hlt hW0
  refine ⟨ds, [], p, [], p, [], hW0, ?_, ?_, ?_, World.keptBut_mono (fun x hx => ⟨hx, .inr (.inl hx)⟩) (hb.frame (· ∈ p)), fun h => by cases h⟩
  · rw [hfn, hres]
    exact trodAll_mk1 (shut_bool Tryz.underlying4 _)
  · rw [hfn]
    exact trodAll_stays laidOutK _ hp hA (fun x hx => hb.same (hlt x hx)) (fun x hx => by simpa using hlt x hx)
  · rw [hv, hfn]
    rfl
end Go.Proofs.YtnpaikdaogikcaaGreatDoor
