/- The document's number of an integer, and its text. -/
import Derived.Test.YtaigmkpeaenpmaaDoorLess
import Derived.Test.YtaigmkpeaenpmaaDoorKeeps
import Derived.Test.YtaigmkpeaenpmaaDoorMinMax
import Derived.Test.YtaigmkpeaenpmaaDoorNumText
namespace Go.Proofs.YtaigmkpeaenpmaaDoor
set_option maxRecDepth 100000
open Go.RowKit
attribute [local go_sem] min2_i max2_i max_two_i min_two_i
set_option linter.unusedVariables false
set_option linter.unusedSimpArgs false

theorem infoInt1 : (Tryd.prog.info? 3).map (fun i => (i.zero, i.size, i.bytes)) = some (some (.int .i64 0), 1, 8) := by kernel_rfl
def figI (m : Nat) : List Int := (figs m).map Int.ofNat
theorem figI_zero : figI 0 = [] := by simp [figI, figs_zero]
theorem figI_pos {m : Nat} (h : 0 < m) : figI m = ((m % 10000 : Nat) : Int) :: figI (m / 10000) := by simp [figI, figs_pos h]

/-- A number as it lies in memory. -/
def NumV (w : World) (v : Value) (n : Int) : Prop := ∃ A c, v = .agg #[.bool (decide (n < 0)), .slice A (figI n.natAbs).length c] ∧ (figI n.natAbs).length ≤ c ∧ c ≤ maxLen ∧ IS w A (figI n.natAbs)

theorem tmod_abs {c : Int} (h : c ≠ 0) : maxI (c.tmod 10000) (-(c.tmod 10000)) = ((c.natAbs % 10000 : Nat) : Int) ∧ (c.tdiv 10000).natAbs = c.natAbs / 10000 ∧ (-10000 < c.tmod 10000 ∧ c.tmod 10000 < 10000) := by
  rcases Int.lt_or_le c 0 with hc | hc
  · obtain ⟨d, rfl⟩ : ∃ d, c = -d := ⟨-c, by omega⟩
    rw [Int.neg_tmod, Int.neg_tdiv, Int.tmod_eq_emod_of_nonneg (by omega), Int.tdiv_eq_ediv_of_nonneg (by omega)]
    unfold maxI
    refine ⟨?_, by omega, by omega, by omega⟩
    split <;> omega
  · rw [Int.tmod_eq_emod_of_nonneg hc, Int.tdiv_eq_ediv_of_nonneg hc]
    unfold maxI
    refine ⟨?_, by omega, by omega, by omega⟩
    split <;> omega

set_option maxRecDepth 100000 in
set_option maxHeartbeats 1000000 in
theorem ref_of (n : Int) (w : World) (h0 : -9223372036854775808 ≤ n) (h1 : n ≤ 9223372036854775807) :
    Calls Tryd.prog 20 #[.int .i64 n] w fun e w' => ∃ v, e = .returned v ∧ NumV w' v n ∧ Ext w w' := by
  refine of_post fun R hR => ?_
  obtain ⟨i0, hi0, hz0, hz1, hz2⟩ := info_parts infoInt1
  have HLN : Hid ((figI n.natAbs).length ≤ 5) := Lib.hid (by unfold figI; rw [List.length_map]; exact figs_len 5 _ (by omega))
  have H0 := Lib.hid h0
  have H1 := Lib.hid h1
  clear h0 h1
  go_enter Tryd.func20, Tryd.ntmps20
  go_wp2_with fail
  go_loopw [0, 4] (fun nv _ wr => ∃ (c : Int) (fs : List Int) (v : Value), nv = .int .i64 c ∧ -9223372036854775808 ≤ c ∧ c ≤ 9223372036854775807 ∧ Hid (figI n.natAbs = fs ++ figI c.natAbs) ∧
    wr.cell? ⟨w.heap.size + 1, 0, none⟩ = some (.bool (decide (n < 0))) ∧ wr.cell? ⟨w.heap.size + 1, 1, none⟩ = some v ∧ wr.frozen? ⟨w.heap.size + 1, 1, none⟩ = false ∧
    wr.cell? ⟨w.heap.size, 0, none⟩ = some (.bool false) ∧ wr.cell? ⟨w.heap.size, 1, none⟩ = some (.slice none 0 0) ∧ wr.frozen? ⟨w.heap.size, 0, none⟩ = false ∧ wr.frozen? ⟨w.heap.size, 1, none⟩ = false ∧
    Hid (wr.ownsRow (w.heap.size + 2) 3 1 v fs.length (fs.map I64)) ∧ Hid (Ext w wr ∧ w.heap.size + 2 ≤ wr.heap.size)) (fun nv _ _ => (intOf nv).natAbs)
  case atStart => exact ⟨n, [], .slice none 0 0, rfl, H0.out, H1.out, Lib.hid rfl, by simp, by simp, by simp, by simp, by simp, by simp, by simp, Lib.hid (World.ownsRow_nil _ _ _ _), Lib.hid ⟨((Ext.refl' w).alloc' _).alloc' _, by simp⟩⟩
  case round =>
    obtain ⟨c, fs, v, rfl, c0, c1, HF, g0, g1, g2, g3, g4, g5, g6, HO, HX⟩ := hrel
    by_cases hc : c = 0
    · subst hc
      have HF2 : Hid (figI n.natAbs = fs) := Lib.hid (by rw [HF.out]; simp [figI_zero])
      obtain ⟨A, cp, rfl⟩ := own_form HO.out
      have HV : Hid (∀ W, Keeps (fun k => k = w.heap.size) wr W → NumV W (.agg #[.bool (decide (n < 0)), .slice A fs.length cp]) n) := Lib.hid fun W hW => by
        have hw : W.ownsRow (w.heap.size + 2) 3 1 (.slice A fs.length cp) fs.length (fs.map I64) := hW.own HO.out fun g hg e => by have := (HO.out.lt g hg).1; omega
        refine ⟨A, cp, by rw [HF2.out], ?_, ?_, ?_⟩
        · rw [HF2.out]; rcases hw.2 with ⟨h1, h2⟩ | ⟨g, cap, cur, h1, _, _, h2, _⟩
          · simp only [Value.slice.injEq] at h1; omega
          · simp only [Value.slice.injEq] at h1; omega
        · rcases hw.2 with ⟨h1, h2⟩ | ⟨g, cap, cur, h1, _, _, _, h2, _⟩
          · simp only [Value.slice.injEq] at h1; omega
          · simp only [Value.slice.injEq] at h1; omega
        · rw [HF2.out]; exact IS_of_cells (cellsAt_of_own hw)
      generalize fs.length = fl at *
      have hkp := ((Keeps.refl (fun k => k = w.heap.size) wr).setCell (p := ⟨w.heap.size, 0, none⟩) rfl (.bool (decide (n < 0)))).setCell (p := ⟨w.heap.size, 1, none⟩) rfl (.slice A fl cp)
      have HKP := Lib.hid hkp
      clear hkp
      go_wp2_with fail
      refine bodyPost_ret (v := .agg #[.bool (decide (n < 0)), .slice A fl cp]) (by simp [results, Tryd.results20, go_sem, g3, g4]) rfl (hR.out _ _ ⟨_, rfl, HV.out _ HKP.out, Keeps.below HX.out.1 HKP.out fun b hb q => by omega⟩)
    · obtain ⟨hm, hd, hb0, hb1⟩ := tmod_abs hc
      have HD := Lib.hid hd
      have hpos : 0 < c.natAbs := by omega
      have hne : (c != 0) = true := by simpa using hc
      have HF2 : Hid (figI n.natAbs = (fs ++ [((c.natAbs % 10000 : Nat) : Int)]) ++ figI (c.tdiv 10000).natAbs) := Lib.hid (by rw [HF.out, figI_pos hpos, hd]; simp)
      have HFL : Hid (fs.length ≤ 5) := Lib.hid (by have := HLN.out; rw [HF.out, List.length_append] at this; omega)
      have hq0 : c.tdiv 10000 ≤ 1000000000000000 := by omega
      have hq1 : -1000000000000000 ≤ c.tdiv 10000 := by omega
      have HM : Hid ((c.tdiv 10000).natAbs < c.natAbs) := Lib.hid (by omega)
      clear hd hpos hc c0 c1
      generalize hf : c.tmod 10000 = f at *
      generalize hq : c.tdiv 10000 = q at *
      generalize hgg : ((c.natAbs % 10000 : Nat) : Int) = g at *
      have hs1 : wr.heap.size ≠ w.heap.size + 1 := by have := HX.out.2; omega
      have HOA := fun o => Lib.hid (own_ext HO.out ((Ext.refl' wr).alloc' o))
      have HNW := Lib.hid (cellsAt_new wr [I64 g] 3)
      have hb2 : (fs.length + 1) * 8 ≤ 140737488355328 := by have := HFL.out; omega
      have hb3 : fs.length + 1 ≤ maxLen := by have := HFL.out; unfold maxLen; omega
      have hbs : w.heap.size + 2 ≤ (wr.alloc (.cells #[I64 g] 3)).heap.size := by have := HX.out.2; simp; omega
      have HHX := Lib.hid hbs
      have HGM := Lib.hid (oneCells_I64 [g])
      have HB : Hid (v.ownBlock ≠ some (w.heap.size + 1) ∧ v.ownBlock ≠ some w.heap.size) := Lib.hid ⟨fun e => by have := (HO.out.lt _ e).1; omega, fun e => by have := (HO.out.lt _ e).1; omega⟩
      clear hbs
      go_wp2_with (at_builtin; go_must (refine wpList_append_src _ rfl _ _ 36 rfl (w.heap.size + 2) 3 i0 (.int .i64 0) 1 8 Tryd.underlying36 hi0 hz0 hz1 hz2 rfl (by decide) v fs.length (fs.map I64) rfl (HOA _).out (some ⟨wr.heap.size, 0, none⟩) 1 1 [I64 g] rfl rfl HNW.out HGM.out hb2 hb3 HHX.out ?_); intro u' w2 hO1 hG1 hB1; obtain ⟨A2, cp2, rfl⟩ := own_form hO1; have HO1 := Lib.hid hO1; have HG1 := Lib.hid hG1; go_must (have gx := fun (p : Addr) (u : Value) (h : wr.cell? p = some u) (hn : v.ownBlock ≠ some p.block) => hG1.cell (((Ext.refl' wr).alloc' (.cells #[I64 g] 3)).cell' h) (fun e => hn e.symm)); go_must (have fx := fun (p : Addr) (u : Value) (h : wr.cell? p = some u) (hn : v.ownBlock ≠ some p.block) => (hG1.frozen_far p (lt_of_cell (((Ext.refl' wr).alloc' (.cells #[I64 g] 3)).cell' h)) (fun e => hn e.symm)).trans (World.frozen?_of_block (((Ext.refl' wr).alloc' (.cells #[I64 g] 3)).block _ (lt_of_cell h)))); go_must (have r0 := gx _ _ g0 HB.out.1; have r1 := gx _ _ g1 HB.out.1; have r2 := (fx _ _ g1 HB.out.1).trans g2; have r3 := gx _ _ g3 HB.out.2; have r4 := gx _ _ g4 HB.out.2; have r5 := (fx _ _ g3 HB.out.2).trans g5; have r6 := (fx _ _ g4 HB.out.2).trans g6); clear gx fx hO1 hG1 hB1)
      obtain ⟨u', hu'⟩ : ∃ u', (.slice A2 (fs.length + 1) cp2 : Value) = u' := ⟨_, rfl⟩
      rw [hu'] at HO1
      have hX2 : Ext w w2 := ext_grown_from (HX.out.1.alloc' _) HG1.out (fun k e => by have := (HO.out.lt k e).1; omega)
      have hk := Keeps.set w2 ⟨w.heap.size + 1, 1, none⟩ u'
      have HO3 : Hid ((w2.setCell ⟨w.heap.size + 1, 1, none⟩ u').ownsRow (w.heap.size + 2) 3 1 u' (fs ++ [g]).length ((fs ++ [g]).map I64)) := Lib.hid (by
        have h1 := hk.own HO1.out fun g' hg' e => by have h2 := (HO1.out.lt g' hg').1; simp only at e; omega
        rw [List.length_append, List.map_append]; exact h1)
      have HX3 : Hid (Ext w (w2.setCell ⟨w.heap.size + 1, 1, none⟩ u') ∧ w.heap.size + 2 ≤ (w2.setCell ⟨w.heap.size + 1, 1, none⟩ u').heap.size) := Lib.hid ⟨Keeps.below hX2 hk fun b hb q => by simp only at q; omega, by have h1 := HG1.out.size; have h2 := HX.out.2; simp at h1 ⊢; omega⟩
      have HQB : Hid (-9223372036854775808 ≤ q ∧ q ≤ 9223372036854775807) := Lib.hid (by omega)
      have c0' : (w2.setCell ⟨w.heap.size + 1, 1, none⟩ u').cell? ⟨w.heap.size + 1, 0, none⟩ = some (.bool (decide (n < 0))) := (World.cell?_setCell_other _ _ _ _ (by simp)).trans r0
      have c1' : (w2.setCell ⟨w.heap.size + 1, 1, none⟩ u').cell? ⟨w.heap.size + 1, 1, none⟩ = some u' := World.cell?_setCell_same' _ _ _ (by rw [r1]; rfl)
      have c3' := hk.cell (p := ⟨w.heap.size, 0, none⟩) (by simp) r3
      have c4' := hk.cell (p := ⟨w.heap.size, 1, none⟩) (by simp) r4
      have HCC := Lib.hid (And.intro c0' (And.intro c1' (And.intro c3' c4')))
      clear c0' c1' c3' c4' hk hX2
      subst hu'
      go_wp2_with fail
      go_roundw
      case rel => exact ⟨q, fs ++ [g], _, rfl, HQB.out.1, HQB.out.2, HF2, HCC.out.1, HCC.out.2.1, (by simpa using r2), HCC.out.2.2.1, HCC.out.2.2.2, (by simpa using r5), (by simpa using r6), HO3, HX3⟩
      case measure => simp [intOf]; exact HM.out

/-- A byte of the ten digits. -/
def tenS : ByteArray := ⟨#[48, 49, 50, 51, 52, 53, 54, 55, 56, 57]⟩
theorem ten_cut {d : Nat} (h : d < 10) : (⟨#[48, 49, 50, 51, 52, 53, 54, 55, 56, 57]⟩ : ByteArray).extract d (d + 1) = ⟨#[UInt8.ofNat (48 + d)]⟩ := by
  rcases (by omega : d = 0 ∨ d = 1 ∨ d = 2 ∨ d = 3 ∨ d = 4 ∨ d = 5 ∨ d = 6 ∨ d = 7 ∨ d = 8 ∨ d = 9) with h | h | h | h | h | h | h | h | h | h <;> subst h <;> decide +kernel
theorem bytes_cons (c : UInt8) (l : List UInt8) : (⟨#[c]⟩ : ByteArray) ++ (⟨l.toArray⟩ : ByteArray) = ⟨(c :: l).toArray⟩ := by
  apply ByteArray.ext; simp [ByteArray.data_append]

set_option maxRecDepth 100000 in
set_option maxHeartbeats 1000000 in
theorem ref_text (v : Value) (n : Int) (w : World) (hv : NumV w v n) (h0 : -9223372036854775808 ≤ n) (h1 : n ≤ 9223372036854775807) :
    Calls Tryd.prog 19 #[v] w fun e w' => e = .returned (.string ⟨(Lib.itoa n).toArray⟩) ∧ Ext w w' := by
  refine of_post fun R hR => ?_
  obtain ⟨A, c, rfl, hc, hcm, hI⟩ := hv
  have HFL : ∀ f ∈ figs n.natAbs, f < 10000 := figs_lt _
  have HE : Hid (figs n.natAbs = [] ↔ n = 0) := Lib.hid (by rw [figs_empty]; omega)
  have hL5 : (figs n.natAbs).length ≤ 5 := figs_len 5 _ (by omega)
  have HNT := Lib.hid (numText_itoa n)
  have HI := Lib.hid hI
  have HFI : Hid (figI n.natAbs = (figs n.natAbs).map Int.ofNat) := Lib.hid rfl
  have hlen : (figI n.natAbs).length = (figs n.natAbs).length := by simp [figI]
  rw [hlen] at hc ⊢
  have HB : Hid (numText n = if (figs n.natAbs) = [] then [48] else if decide (n < 0) = true then 45 :: outer (figs n.natAbs) [] else outer (figs n.natAbs) []) := Lib.hid (by
    unfold numText; simp only [HE.out, decide_eq_true_eq])
  clear hI h0 h1 hcm hlen HE
  generalize figs n.natAbs = F at *
  generalize decide (n < 0) = neg at *
  generalize figI n.natAbs = FI at *
  generalize hLn : F.length = L at *
  have HL := Lib.hid hLn
  have HFL2 := Lib.hid HFL
  clear hLn HFL
  by_cases hz : L = 0
  · subst hz
    have HF : Hid (F = []) := Lib.hid (List.eq_nil_of_length_eq_zero HL.out)
    go_enter Tryd.func19, Tryd.ntmps19
    go_wp2_with fail
    exact hR.out _ _ ⟨by rw [← HNT.out, HB.out, if_pos HF.out]; rfl, (Ext.refl' w).alloc' _⟩
  · have hz1 : ((L : Int) == 0) = false := by simp; omega
    have HFN : Hid (¬ F = []) := Lib.hid (fun e => hz (by rw [← HL.out, e]; rfl))
    go_enter Tryd.func19, Tryd.ntmps19
    go_wp2_with fail
    obtain ⟨W, hW⟩ : ∃ W, w.alloc (.cells #[.bool neg, .slice A L c] 61) = W := ⟨_, rfl⟩
    have cb : W.cell? ⟨w.heap.size, 0, none⟩ = some (.bool neg) := by rw [← hW]; simp
    have cs : W.cell? ⟨w.heap.size, 1, none⟩ = some (.slice A L c) := by rw [← hW]; simp
    have HX : Hid (Ext w W) := Lib.hid (by rw [← hW]; exact (Ext.refl' w).alloc' _)
    rw [hW]
    clear hW
    obtain ⟨b, o, hA, hcell⟩ := HI.out (by rw [HFI.out]; simpa using HFN.out)
    subst hA
    go_loopw [3, 4, 5, 6, 14] (fun sv _ _ _ iv wr => ∃ (k : Nat) (s : List UInt8), sv = .string ⟨s.toArray⟩ ∧ iv = .int .i64 k ∧ k ≤ L ∧ s.length ≤ 4 * k ∧ wr = W ∧ Hid (outer F [] = outer (F.drop k) s)) (fun _ _ _ _ iv _ => L - (intOf iv).toNat)
    case atStart => exact ⟨0, [], rfl, rfl, Nat.zero_le _, Nat.zero_le _, rfl, Lib.hid rfl⟩
    case round =>
      obtain ⟨k, s, rfl, rfl, hk, hsl, rfl, HO⟩ := hrel
      by_cases hlt : k < L
      · have hkF : k < F.length := by rw [HL.out]; exact hlt
        obtain ⟨f, hf⟩ : ∃ f, F[k] = f := ⟨_, rfl⟩
        have cf := HX.out.cell' (hcell k (by rw [HFI.out, List.length_map]; exact hkF))
        rw [HFI.out, List.getElem?_map, List.getElem?_eq_getElem hkF, hf] at cf
        simp only [Option.map_some, Option.getD_some] at cf
        have cf' : wr.cell? ⟨b, o + k, none⟩ = some (.int .i64 (f : Int)) := cf
        clear cf
        have hf4 : f < 10000 := by rw [← hf]; exact HFL2.out _ (List.getElem_mem hkF)
        obtain ⟨more, hmo⟩ : ∃ m, decide (k + 1 < L) = m := ⟨_, rfl⟩
        have HST : Hid (outer F [] = outer (F.drop (k + 1)) (inner more 4 f s)) := Lib.hid (by
          rw [HO.out, List.drop_eq_getElem_cons hkF, outer, hf, ← hmo]
          congr 2
          rw [Bool.eq_iff_iff]
          simp [HL.out])
        have HMO := Lib.hid hmo
        clear hf hmo
        go_wp2_with fail
        obtain ⟨wo, hwo⟩ : ∃ wo : World, wo = wr := ⟨_, rfl⟩
        have HWO := Lib.hid hwo
        clear hwo
        go_loopw [3, 5, 6] (fun sv fv jv wr2 => ∃ (j f' : Nat) (s' : List UInt8), sv = .string ⟨s'.toArray⟩ ∧ fv = .int .i64 f' ∧ jv = .int .i64 j ∧ j ≤ 4 ∧ f' < 10000 ∧ s'.length ≤ 4 * k + j ∧ wr2 = wr ∧ Hid (inner more 4 f s = inner more (4 - j) f' s')) (fun _ _ jv _ => 4 - (intOf jv).toNat)
        case atStart => exact ⟨0, f, s, rfl, rfl, rfl, by omega, hf4, by omega, rfl, Lib.hid rfl⟩
        case round =>
          obtain ⟨j, f', s', rfl, rfl, rfl, hj, hf', hsl2, rfl, HIN⟩ := hrel
          by_cases hj4 : j < 4
          · have hkl : (k : Int) + 1 ≤ L := by omega
            have hL5' : (L : Int) ≤ 5 := by omega
            have hs24 : s'.length ≤ 24 := by omega
            have HS24 : Hid (s'.length + 1 ≤ 4 * k + (j + 1)) := Lib.hid (by omega)
            by_cases hz0 : f' = 0
            · subst hz0
              have HIS : Hid (inner more 4 f s = inner more (4 - (j + 1)) 0 (if more then 48 :: s' else s')) := Lib.hid (by
                rw [HIN.out, show 4 - j = (4 - (j + 1)) + 1 by omega, inner]; rfl)
              by_cases hp2 : (k : Int) + 1 < L
              · have hm : more = true := by rw [← HMO.out]; simp; omega
                rw [hm, if_pos rfl] at HIS
                rw [← hm] at HIS
                clear hm
                have HTC := Lib.hid (ten_cut (d := 0) (by omega))
                go_wp2_with fail
                go_roundw
                case rel => exact ⟨j + 1, 0, 48 :: s', (by first | trivial | (rw [HTC.out, bytes_cons]; rfl)), (by first | rfl | trivial), (by go_num), (by omega), (by omega), (by have := HS24.out; simp; omega), (by first | rfl | trivial), HIS⟩
                case measure => simp [intOf]; omega
              · have hm : more = false := by rw [← HMO.out]; simp; omega
                rw [hm, if_neg (by simp)] at HIS
                rw [← hm] at HIS
                clear hm
                go_wp2_with fail
                go_roundw
                case rel => exact ⟨j + 1, 0, s', (by first | rfl | trivial), (by first | rfl | trivial), (by go_num), (by omega), (by omega), (by have := HS24.out; omega), (by first | rfl | trivial), HIS⟩
                case measure => simp [intOf]; omega
            · have hd1 : (f' : Int).tmod 10 = ((f' % 10 : Nat) : Int) := by show (f' : Int).tmod ((10 : Nat) : Int) = _; rw [← Int.ofNat_tmod]
              have hd2 : (f' : Int).tdiv 10 = ((f' / 10 : Nat) : Int) := by show (f' : Int).tdiv ((10 : Nat) : Int) = _; rw [← Int.ofNat_tdiv]
              obtain ⟨d, hd⟩ : ∃ d, f' % 10 = d := ⟨_, rfl⟩
              obtain ⟨q, hq⟩ : ∃ q, f' / 10 = q := ⟨_, rfl⟩
              have hd10 : d < 10 := by omega
              have hq4 : q < 10000 := by omega
              have hf0 : (0 : Int) < f' := by omega
              have hf9 : (f' : Int) < 10000 := by omega
              have HIS : Hid (inner more 4 f s = inner more (4 - (j + 1)) q (UInt8.ofNat (48 + d) :: s')) := Lib.hid (by
                rw [HIN.out, show 4 - j = (4 - (j + 1)) + 1 by omega, inner, hd, hq, if_pos (by simp; left; omega)])
              rw [hd] at hd1
              rw [hq] at hd2
              clear hd hq hz0
              have HTC := Lib.hid (ten_cut hd10)
              go_wp2_with fail
              go_roundw
              case rel => exact ⟨j + 1, q, UInt8.ofNat (48 + d) :: s', (by first | trivial | rw [HTC.out, bytes_cons]), (by first | rfl | trivial), (by go_num), (by omega), hq4, (by have := HS24.out; simp; omega), (by first | rfl | trivial), HIS⟩
              case measure => simp [intOf]; omega
          · obtain rfl : j = 4 := by omega
            have HN : Hid (outer F [] = outer (F.drop (k + 1)) s') := Lib.hid (by rw [HST.out, HIN.out]; rfl)
            go_wp2_with fail
            refine ⟨⟨k + 1, s', (by first | rfl | trivial), by go_num, by omega, by omega, (by first | rfl | trivial), HN⟩, ?_⟩
            simp [intOf]; omega
      · obtain rfl : k = L := by omega
        have HN : Hid (outer F [] = s) := Lib.hid (by rw [HO.out, List.drop_of_length_le (by rw [HL.out]; exact Nat.le_refl _)]; rfl)
        cases neg with
        | true =>
          go_wp2_with fail
          exact hR.out _ _ ⟨by rw [← HNT.out, HB.out, if_neg HFN.out, if_pos (by simp), HN.out]; exact congrArg (fun x => Ending.returned (Value.string x)) (bytes_cons 45 s), HX.out⟩
        | false =>
          go_wp2_with fail
          exact hR.out _ _ ⟨by rw [← HNT.out, HB.out, if_neg HFN.out, if_neg (by simp), HN.out]; rfl, HX.out⟩
end Go.Proofs.YtaigmkpeaenpmaaDoor
