/- A mutation's text, as the program puts it together. -/
import Derived.Test.YtaigmkpeaenpmaaDoorMutUse
import Derived.Deep.DeepCutAuto
import Derived.Deep.DrawnRows
namespace Go.Proofs.YtaigmkpeaenpmaaDoor
set_option maxRecDepth 100000
open Go.RowKit
attribute [local go_sem ↓] Go.wp_at_zero Go.wp_at_succ
set_option linter.unusedVariables false
set_option linter.unusedSimpArgs false

def valAt (m1 m2 m3 : Int) (o : Nat) : Int := if o = 1 then m1 else if o = 2 then m2 else m3
theorem vals_offs (k : Nat) (hk : k < 6) (m1 m2 m3 : Int) : valsK k m1 m2 m3 = (offsK k).map (valAt m1 m2 m3) ∧ (offsK k).length ≤ 3 ∧ ∀ o ∈ offsK k, o = 1 ∨ o = 2 ∨ o = 3 := by
  rcases (by omega : k = 0 ∨ k = 1 ∨ k = 2 ∨ k = 3 ∨ k = 4 ∨ k = 5) with h | h | h | h | h | h <;> subst h <;> refine ⟨rfl, by simp [offsK], by simp [offsK]⟩

theorem alloc3_facts {W w1 : World} {a b c : Value} {t : TypeId} (hx : Ext (W.alloc (.cells #[a, b, c] t)) w1) : w1.cell? ⟨W.heap.size, 0, none⟩ = some a ∧ w1.cell? ⟨W.heap.size, 1, none⟩ = some b ∧ w1.cell? ⟨W.heap.size, 2, none⟩ = some c ∧
    w1.frozen? ⟨W.heap.size, 0, none⟩ = false ∧ w1.frozen? ⟨W.heap.size, 1, none⟩ = false ∧ w1.frozen? ⟨W.heap.size, 2, none⟩ = false := by
  have h0 : (W.alloc (.cells #[a, b, c] t)).cell? ⟨W.heap.size, 0, none⟩ = some a := by simp
  have h1 : (W.alloc (.cells #[a, b, c] t)).cell? ⟨W.heap.size, 1, none⟩ = some b := by simp
  have h2 : (W.alloc (.cells #[a, b, c] t)).cell? ⟨W.heap.size, 2, none⟩ = some c := by simp
  have hb := hx.block W.heap.size (by simp)
  exact ⟨hx.cell' h0, hx.cell' h1, hx.cell' h2, (World.frozen?_of_block hb).trans (by simp), (World.frozen?_of_block hb).trans (by simp), (World.frozen?_of_block hb).trans (by simp)⟩
theorem alloc3_factsD {W w1 : World} {a b c : Value} {t : TypeId} (hx : Ext (W.alloc (.cells #[a, b, c] t)).drew w1) : w1.cell? ⟨W.heap.size, 0, none⟩ = some a ∧ w1.cell? ⟨W.heap.size, 1, none⟩ = some b ∧ w1.cell? ⟨W.heap.size, 2, none⟩ = some c ∧
    w1.frozen? ⟨W.heap.size, 0, none⟩ = false ∧ w1.frozen? ⟨W.heap.size, 1, none⟩ = false ∧ w1.frozen? ⟨W.heap.size, 2, none⟩ = false := alloc3_facts (t := t) ⟨hx.os, hx.tape, hx.output, hx.size, hx.block⟩
theorem ways_alloc (W : World) (a b c : Value) (t : TypeId) : Calls Tryd.prog 11 #[] (W.alloc (.cells #[a, b, c] t)).drew fun e w1 => e = .returned (.agg waysV) ∧ Ext (W.alloc (.cells #[a, b, c] t)).drew w1 ∧ w1.cell? ⟨W.heap.size, 0, none⟩ = some a ∧ w1.cell? ⟨W.heap.size, 1, none⟩ = some b ∧ w1.cell? ⟨W.heap.size, 2, none⟩ = some c ∧
    w1.frozen? ⟨W.heap.size, 0, none⟩ = false ∧ w1.frozen? ⟨W.heap.size, 1, none⟩ = false ∧ w1.frozen? ⟨W.heap.size, 2, none⟩ = false :=
  (ways_any _).mono fun e w1 ⟨he, hx⟩ => ⟨he, hx, alloc3_factsD (t := t) hx⟩

set_option maxHeartbeats 1000000 in
theorem text_run (k : Nat) (hk : k < 6) (m1 m2 m3 : Int) (w : World) (hb : ∀ m ∈ [m1, m2, m3], -9223372036854775808 ≤ m ∧ m ≤ 9223372036854775807) (hpow : Pow w) (f d : FuncId)
    (hidx : ∀ w : World, (Instr.index 44 (.agg waysV) (.int .i64 k)).run Tryd.prog w = .ok (.agg #[.string ⟨(wordK k).toArray⟩, .func (.func d) #[] #[], .func (.func f) #[] #[]]) w)
    (huse : Uses f (offsK k)) (hent : Enters Tryd.prog f) :
    Calls Tryd.prog 6 #[.agg #[.int .i64 k, .int .i64 m1, .int .i64 m2, .int .i64 m3]] w fun e w' => e = .returned (.string ⟨(textOf (wordK k) (valsK k m1 m2 m3)).toArray⟩) ∧ Ext w w' := by
  refine of_post fun R hR => ?_
  have HVO := Lib.hid (vals_offs k hk m1 m2 m3)
  have HWL := Lib.hid (word_len k)
  have HTX := fun m (h : m ∈ [m1, m2, m3]) w hp => Lib.hid (whole_text m w (hb m h).1 (hb m h).2 hp)
  have HIL := fun m (h : m ∈ [m1, m2, m3]) => Lib.hid (itoa_len (hb m h).1 (hb m h).2)
  have HU := fun b w => Lib.hid (huse b w)
  have HP := Lib.hid hpow
  unfold Enters at hent
  clear huse hb hpow
  obtain ⟨N, hN⟩ : ∃ N, (offsK k).length = N := ⟨_, rfl⟩
  have HN := Lib.hid hN
  rw [hN] at HU
  clear hN
  generalize hwk : wordK k = wk at *
  have HWK := Lib.hid hwk
  clear hwk
  go_enter Tryd.func6, Tryd.ntmps6
  go_upto_region 1 with fail
  obtain ⟨W, hW⟩ : ∃ W, w.alloc (.cells #[.int .i64 k, .int .i64 m1, .int .i64 m2, .int .i64 m3] 28) = W := ⟨_, rfl⟩
  have ck : W.cell? ⟨w.heap.size, 0, none⟩ = some (.int .i64 k) := by rw [← hW]; simp
  have HC : Hid (W.cell? ⟨w.heap.size, 1, none⟩ = some (.int .i64 m1) ∧ W.cell? ⟨w.heap.size, 2, none⟩ = some (.int .i64 m2) ∧ W.cell? ⟨w.heap.size, 3, none⟩ = some (.int .i64 m3)) := Lib.hid (by rw [← hW]; simp)
  have HX : Hid (Ext w W) := Lib.hid (by rw [← hW]; exact (Ext.refl' w).alloc' _)
  rw [hW]
  clear hW
  have hlt0 : w.heap.size < W.heap.size := lt_of_cell ck
  have hne1 : ¬ W.heap.size = w.heap.size := by omega
  have hne2 : ¬ w.heap.size = W.heap.size := by omega
  go_cut [3] (fun s3 wx => ∃ g : Nat, s3 = .pointer (some ⟨g, 0, none⟩) ∧ wx.cell? ⟨g, 0, none⟩ = some (.string ⟨wk.toArray⟩) ∧ wx.cell? ⟨g, 2, none⟩ = some (.func (.func f) #[] #[]) ∧ Hid (Ext W wx))
  case first =>
    go_region_held3 (fun X => X.cell? ⟨w.heap.size, 0, none⟩ = some (.int .i64 k)) (first | go_keep | exact q0)
      (first
        | (go_at_call 11; (with_reducible refine (ways_alloc _ _ _ _ _).mono ?_); rintro e w1 ⟨rfl, hx, z0, z1, z2, y0, y1, y2⟩; have q0 := hx.cell' (p := ⟨w.heap.size, 0, none⟩) (v := .int .i64 k) (by go_keep); have HX1 : Hid (Ext W w1) := Lib.hid (Ext.trans' (((Ext.refl' W).alloc' _).drewN' 1) hx))
        | (go_at_call 11; (with_reducible refine (ways_any _).mono ?_); rintro e w1 ⟨rfl, hx⟩; have q0 := hx.cell' (p := ⟨w.heap.size, 0, none⟩) (v := .int .i64 k) (by go_keep); have HX1 : Hid (Ext W w1) := Lib.hid (Ext.trans' ((Ext.refl' W).drewN' 1) hx)))
    all_goals go_wp2_with fail
    · go_meet
      exact ⟨_, rfl, by simp, by simp, Lib.hid (HX1.out.alloc' _)⟩
    · go_meet
      exact ⟨_, rfl, by simp, by simp, Lib.hid (HX1.out.alloc' _)⟩
    · go_meet
      refine ⟨W.heap.size, rfl, ?_, ?_, Lib.hid (Keeps.below HX1.out ((((Keeps.refl (fun b => b = W.heap.size) w1).setCell (p := ⟨W.heap.size, 0, none⟩) rfl _).setCell (p := ⟨W.heap.size, 1, none⟩) rfl _).setCell (p := ⟨W.heap.size, 2, none⟩) rfl _) fun b hb q => by omega)⟩
      · exact (World.cell?_setCell_other _ _ _ _ (by simp)).trans ((World.cell?_setCell_other _ _ _ _ (by simp)).trans (World.cell?_setCell_same' _ _ _ (by rw [z0]; rfl)))
      · exact World.cell?_setCell_same' _ _ _ (by rw [World.cell?_setCell_other _ _ _ _ (by simp), World.cell?_setCell_other _ _ _ _ (by simp), z2]; rfl)
  case rest =>
    obtain ⟨g, rfl, cw, cu, hxc⟩ := hcut
    have HXW := Lib.hid (HX.out.trans' hxc.out)
    have HCC : Hid (wc.cell? ⟨w.heap.size, 1, none⟩ = some (.int .i64 m1) ∧ wc.cell? ⟨w.heap.size, 2, none⟩ = some (.int .i64 m2) ∧ wc.cell? ⟨w.heap.size, 3, none⟩ = some (.int .i64 m3)) := Lib.hid ⟨hxc.out.cell' HC.out.1, hxc.out.cell' HC.out.2.1, hxc.out.cell' HC.out.2.2⟩
    clear hne1 hne2 hlt0 ck hxc
    go_wp2_with fail
    refine (HU w.heap.size wc).out.mono ?_
    rintro u w2 ⟨g2, rfl, hcell, hx2⟩
    have HPT := Lib.hid hcell
    have HX2 := Lib.hid (HXW.out.trans' hx2)
    have HC2 : Hid (w2.cell? ⟨w.heap.size, 1, none⟩ = some (.int .i64 m1) ∧ w2.cell? ⟨w.heap.size, 2, none⟩ = some (.int .i64 m2) ∧ w2.cell? ⟨w.heap.size, 3, none⟩ = some (.int .i64 m3)) := Lib.hid ⟨hx2.cell' HCC.out.1, hx2.cell' HCC.out.2.1, hx2.cell' HCC.out.2.2⟩
    have hwl := HWL.out
    have hN3 : N ≤ 3 := by rw [← HN.out]; exact HVO.out.2.1
    clear hcell hx2 cw cu
    go_wp2_with fail
    go_loopw [4, 6, 17] (fun sv _ iv wr => ∃ (i : Nat) (s : List UInt8), sv = .string ⟨s.toArray⟩ ∧ iv = .int .i64 i ∧ i ≤ N ∧ Hid (s = textOf wk (((offsK k).take i).map (valAt m1 m2 m3))) ∧ s.length ≤ 9 + 21 * i ∧ Hid (Ext w2 wr)) (fun _ _ iv _ => N - (intOf iv).toNat)
    case atStart => exact ⟨0, wk, rfl, rfl, Nat.zero_le _, Lib.hid rfl, (by omega), Lib.hid (Ext.refl' _)⟩
    case round =>
      obtain ⟨i, s, rfl, rfl, hi, HS, hsl, HXR⟩ := hrel
      by_cases hlt : i < N
      · have hio : i < (offsK k).length := by rw [HN.out]; exact hlt
        obtain ⟨b, o, hA, hc⟩ := HPT.out.at_ (k := i) (by unfold Ptrs; simpa using hio)
        simp only [Option.some.injEq, Addr.mk.injEq, and_true] at hA
        obtain ⟨rfl, rfl⟩ := hA
        have c1 := HXR.out.cell' hc
        simp only [Ptrs, List.getElem_map, Nat.zero_add] at c1
        have HTK : Hid ((offsK k).take (i + 1) = (offsK k).take i ++ [(offsK k)[i]]) := Lib.hid (List.take_succ_eq_append_getElem hio)
        have ho := HVO.out.2.2 _ (List.getElem_mem hio)
        generalize (offsK k)[i] = of at *
        have cv : wr.cell? ⟨w.heap.size, of, none⟩ = some (.int .i64 (valAt m1 m2 m3 of)) := by
          rcases ho with rfl | rfl | rfl
          · exact HXR.out.cell' HC2.out.1
          · exact HXR.out.cell' HC2.out.2.1
          · exact HXR.out.cell' HC2.out.2.2
        have hm : valAt m1 m2 m3 of ∈ [m1, m2, m3] := by rcases ho with rfl | rfl | rfl <;> simp [valAt]
        have HT := HTX _ hm wr (HP.out.on (HX2.out.trans' HXR.out))
        have hil2 := (HIL _ hm).out
        have HNX : Hid (textOf wk (((offsK k).take (i + 1)).map (valAt m1 m2 m3)) = s ++ 32 :: Lib.itoa (valAt m1 m2 m3 of)) := Lib.hid (by rw [HTK.out, List.map_append, List.map_singleton, textOf_snoc, ← HS.out])
        clear hc ho hm
        generalize valAt m1 m2 m3 of = x at *
        go_wp2_with fail
        refine HT.out.mono ?_
        rintro u w3 ⟨rfl, hx3⟩
        have HX3 := Lib.hid (HXR.out.trans' hx3)
        have HS2 : Hid ((⟨s.toArray⟩ : ByteArray) ++ (⟨#[32]⟩ ++ ⟨(Lib.itoa x).toArray⟩) = ⟨(s ++ 32 :: Lib.itoa x).toArray⟩) := Lib.hid (by apply ByteArray.ext; simp [ByteArray.data_append])
        have HL2 : Hid ((s ++ 32 :: Lib.itoa x).length ≤ 9 + 21 * (i + 1)) := Lib.hid (by simp; omega)
        clear hx3 HT
        generalize hit : Lib.itoa x = it at *
        have HIT := Lib.hid hit
        clear hit
        go_wp2_with fail
        go_roundw
        case rel => exact ⟨i + 1, s ++ 32 :: it, (by rw [HS2.out]), (by go_num), (by omega), Lib.hid HNX.out.symm, HL2.out, HX3⟩
        case measure => simp [intOf]; omega
      · obtain rfl : i = N := by omega
        have HFI : Hid (s = textOf wk (valsK k m1 m2 m3)) := Lib.hid (by rw [HS.out, HVO.out.1, List.take_of_length_le (by rw [HN.out]; exact Nat.le_refl _)])
        go_wp2_with fail
        exact hR.out _ _ ⟨ret_s rfl (by rw [HFI.out]), HX2.out.trans' HXR.out⟩
end Go.Proofs.YtaigmkpeaenpmaaDoor
