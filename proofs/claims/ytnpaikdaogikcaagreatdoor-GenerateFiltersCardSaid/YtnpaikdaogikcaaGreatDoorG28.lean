/- The linker: one definition, of a number or a pick of such, is a grammar. -/
import Derived.Test.YtnpaikdaogikcaaGreatDoorG26
import Derived.Test.YtnpaikdaogikcaaGreatDoorG27

namespace Go.Proofs.YtnpaikdaogikcaaGreatDoor
set_option maxRecDepth 100000
open Go.RowKit
set_option linter.unusedVariables false
set_option linter.unusedSimpArgs false

/-- A grammar of one definition. -/
structure Gram (w : World) (gb : Nat) (nm : Bs) (cs : List Value) : Prop where
  ex : ∃ mb dv wd, Blk w gb #[dv, .map (some mb), .int .i64 wd] 83 ∧ MapB w mb [(nm, .agg cs.toArray)] ∧ mb ≠ gb
/-- A linker of one definition, that is not yet in. -/
structure Lnk0 (w : World) (kb mb wb : Nat) : Prop where
  blk : Blk w kb #[.map (some mb), .map (some wb), .map none] 78
  terms : MapB w mb []
  widths : MapB w wb []
theorem Lnk0.on' {w w' : World} {kb mb wb : Nat} (h : Lnk0 w kb mb wb) (hx : Ext w w') : Lnk0 w' kb mb wb := ⟨h.blk.on hx, h.terms.on hx, h.widths.on hx⟩
set_option maxHeartbeats 1000000 in
theorem cloneD (b o c : Nat) (us : List Value) (w : World) (hu : us.length = 14) (h1 : ∀ u ∈ us, u.oneCell' = true) (hr : w.rangeAt b o us) :
    Calls Tryz.prog 21 #[.slice (some ⟨b, o, none⟩) 1 c] w fun e w' => (∃ A n c, e = .returned (.slice A n c)) ∧ Ext w w' := by
  refine of_post fun R hR => ?_
  obtain ⟨i0, hi, hz0, hz1, hz2⟩ := info_parts info14P
  have heq := fun (W : World) (a : Option Addr) (n c : Nat) => Lib.run_eql_slice_nil (P := Tryz.prog) W 43 69 a n c 0 0 Tryz.underlying43
  have HC := Lib.hid (CellsAt.ext (w := w) (A := some ⟨b, o, none⟩) (cs := us) (fun _ => ⟨b, o, rfl, fun k u hk => hr k u hk⟩) ((Ext.refl' w).alloc' (.cells #[] 69)))
  have HO := Lib.hid (own_empty w 69 14)
  have HU := Lib.hid (show us.length = 1 * 14 by omega)
  have H1 := Lib.hid h1
  clear hu h1 hr
  go_enter Tryz.func21, Tryz.ntmps21
  go_wp2_with (at_builtin; go_must (refine wpList_append_src _ rfl _ _ 43 rfl w.heap.size 69 i0 (.agg zero14a) 14 248 Tryz.underlying43 hi hz0 hz1 hz2 rfl (by decide) (.slice (some ⟨w.heap.size, 0, none⟩) 0 0) 0 [] rfl HO.out (some ⟨b, o, none⟩) 1 c us rfl HU.out HC.out H1.out (by decide) (by decide) (by simp) ?_); intro u' w2 hO1 hG1 hB1; obtain ⟨A2, c2, rfl⟩ := own_form hO1; have HX := Lib.hid (ext_grown_from ((Ext.refl' w).alloc' _) hG1 (by intro k hk; simp [Value.ownBlock] at hk; omega)); clear hO1 hG1 hB1)
  exact hR.out _ _ ⟨⟨_, _, _, rfl⟩, HX.out⟩
theorem look0 (mb : Nat) (s : Bs) (hs : s.length ≤ 1000000) (W : World) (h : W.heap[mb]? = some (.map #[] 0)) : (Instr.lookup 74 (.map (some mb)) (sv s) true).run Tryz.prog W = .ok (.tuple #[.agg zero13a, .bool false]) W := by
  have hm : MapB W mb [] := ⟨h, by simp⟩
  have := hm.look (P := Tryz.prog) (by simp) Tryz.underlying74 Tryz.underlying9 (zeroTerm W) s hs true
  simpa [assocB] using this
set_option maxHeartbeats 4000000 in
theorem linkT (nm : Bs) (t : T) (p : Nat → Prop) (ts : List Value) (rb ro c : Nat) (w : World) (hr : RdT p w t ts) (hrow : w.rangeAt rb ro (sv nm :: ts)) (hg : LinkT t) (hs : t.size ≤ 1000) (hn : nm.length ≤ 1000) (hc1 : 1 ≤ c) :
    Calls Tryz.prog 10 #[.slice (some ⟨rb, ro, none⟩) 1 c] w fun e w' => (∃ gb, e = .returned (.tuple #[.pointer (some ⟨gb, 0, none⟩), .int .i64 0, .int .i64 0]) ∧ Gram w' gb nm ts) ∧ Ext w w' := by
  refine of_post fun R hR => ?_
  have HRW := Lib.hid hrow
  have HRT := Lib.hid hr
  have HNM : Hid (nm.length ≤ 1000000) := Lib.hid (by omega)
  have HNL := Lib.hid hn
  have HG := Lib.hid hg
  have HSZ := Lib.hid hs
  obtain ⟨x0, x1, x2, x3, x4, x5, x6, x7, x8, x9, y0, y1, y2, y3, y4, y5, y6, y7, y8, y9, z0, z1, z2, z3, z4, z5, z6, rfl⟩ := RdT.thirteen hr
  clear hr hrow hg hs hn
  go_enter Tryz.func10, Tryz.ntmps10
  go_upto_region 4 with (first
    | (refine wpList_makeMap rfl rfl ?_; intro wm HMA HXM; have HSA := Lib.hid (Nat.lt_of_lt_of_le HMA.out.lt (Nat.le_refl _)); go_wp2_with (refine wpList_makeMap rfl rfl ?_; intro wn HMB HXN)))
  have HB0 : Hid (Blk (wn.alloc (.cells #[.map (some w.heap.size), .map (some wm.heap.size), .map none] 78)) wn.heap.size #[.map (some w.heap.size), .map (some wm.heap.size), .map none] 78) := Lib.hid (Blk.new _ _ _)
  have HX1 := Lib.hid (ext_al wn (.cells #[.map (some w.heap.size), .map (some wm.heap.size), .map none] 78))
  generalize hw1 : wn.alloc (.cells #[.map (some w.heap.size), .map (some wm.heap.size), .map none] 78) = w1 at *
  have HD : Hid (w.heap.size < wm.heap.size ∧ wm.heap.size < wn.heap.size ∧ wn.heap.size < w1.heap.size) := Lib.hid ⟨HMA.out.lt, HMB.out.lt, HB0.out.lt⟩
  have HL0 : Hid (Lnk0 w1 wn.heap.size w.heap.size wm.heap.size) := Lib.hid ⟨HB0.out, (HMA.out.on HXN.out).on HX1.out, HMB.out.on HX1.out⟩
  have HXW : Hid (Ext w w1) := Lib.hid ((HXM.out.trans' HXN.out).trans' HX1.out)
  have HBL : Hid (rb < w.heap.size) := Lib.hid (lt_of_cell (HRW.out 0 _ rfl))
  clear hw1 HMA HXM HMB HXN HSA HX1 HB0
  generalize hmb : w.heap.size = mb at *
  generalize wm.heap.size = wb at *
  generalize wn.heap.size = kb at *
  go_loopw [28] (fun iv wr => (iv = .int .i64 0 ∧ wr = w1) ∨ (iv = .int .i64 1 ∧ Hid (Ext w wr ∧ Lnk wr kb mb wb nm [.int .i64 x0, .string x1, .int .i64 x2, .bool x3, .int .i64 x4, .string x5, .slice x6 x7 x8, .slice x9 y0 y1, .slice y2 y3 y4, .slice y5 y6 y7, .slice y8 y9 z0, .slice z1 z2 z3, .slice z4 z5 z6] []))) (fun iv _ => 1 - (intOf iv).toNat)
  case atStart => exact .inl ⟨rfl, rfl⟩
  case round =>
    obtain ⟨rfl, rfl⟩ | ⟨rfl, HS⟩ := hrel
    · have HRR : Hid (wr.rangeAt rb (ro + 0 * 14) (sv nm :: [.int .i64 x0, .string x1, .int .i64 x2, .bool x3, .int .i64 x4, .string x5, .slice x6 x7 x8, .slice x9 y0 y1, .slice y2 y3 y4, .slice y5 y6 y7, .slice y8 y9 z0, .slice z1 z2 z3, .slice z4 z5 z6])) := Lib.hid fun j v hv => HXW.out.cell' (by have := HRW.out j v hv; simpa using this)
      go_upto_region 7 with (refine wpList_load_mid rfl 69 _ rfl _ _ rfl _ _ HRR.out Tryz.underlying69 rfl info14p ?_)
      have HBV := Blk.new wr #[sv nm, .int .i64 x0, .string x1, .int .i64 x2, .bool x3, .int .i64 x4, .string x5, .slice x6 x7 x8, .slice x9 y0 y1, .slice y2 y3 y4, .slice y5 y6 y7, .slice y8 y9 z0, .slice z1 z2 z3, .slice z4 z5 z6] 69
      have hxv := ext_al wr (.cells #[sv nm, .int .i64 x0, .string x1, .int .i64 x2, .bool x3, .int .i64 x4, .string x5, .slice x6 x7 x8, .slice x9 y0 y1, .slice y2 y3 y4, .slice y5 y6 y7, .slice y8 y9 z0, .slice z1 z2 z3, .slice z4 z5 z6] 69)
      generalize hwv : wr.alloc (.cells #[sv nm, .int .i64 x0, .string x1, .int .i64 x2, .bool x3, .int .i64 x4, .string x5, .slice x6 x7 x8, .slice x9 y0 y1, .slice y2 y3 y4, .slice y5 y6 y7, .slice y8 y9 z0, .slice z1 z2 z3, .slice z4 z5 z6] 69) = wV at *
      have HXV := Lib.hid hxv
      have hck := (HL0.out.blk.on hxv).cell
      have hcv := HBV.cell
      have hmp := (HL0.out.terms.on hxv).blk
      have hmp2 := ((HL0.out.terms.on hxv).on (ext_al wV (.cells zero13a 51))).blk
      have hlk1 := look0 mb nm HNM.out wV.drew hmp
      have hlk2 := look0 mb nm HNM.out (wV.alloc (.cells zero13a 51)).drew hmp2
      have hvl := HBV.lt
      have hkl := (HL0.out.blk.on hxv).lt
      generalize wr.heap.size = vb at *
      clear hwv hxv
      go_cut [8, 9] (fun s8 s9 wx => s9 = .bool false ∧ Hid (Ext wV wx))
      case first =>
        go_region
        all_goals
          go_wp2_with fail
          go_meet
          exact ⟨rfl, Lib.hid (by first | exact ((Ext.refl' wV).drewN' 1).alloc' _ | exact ((Ext.refl' wV).alloc' _).drewN' 1)⟩
      obtain ⟨rfl, HXC⟩ := hcut
      have HLC := Lib.hid (HL0.out.on' (HXV.out.trans' HXC.out))
      obtain ⟨w9, hput, hm9, hk9⟩ := MapB.put (P := Tryz.prog) (w := wc.drew) (HLC.out.terms.on ((Ext.refl' wc).drewN' 1)) (by simp) Tryz.underlying74 Tryz.underlying9 nm HNM.out (.agg [.int .i64 x0, .string x1, .int .i64 x2, .bool x3, .int .i64 x4, .string x5, .slice x6 x7 x8, .slice x9 y0 y1, .slice y2 y3 y4, .slice y5 y6 y7, .slice y8 y9 z0, .slice z1 z2 z3, .slice z4 z5 z6].toArray) rfl
      have hck := HLC.out.blk.cell
      have hcv := (HBV.on HXC.out).cell
      go_upto_region 10 with fail
      have HL1 : Hid (Ext w w9 ∧ Lnk w9 kb mb wb nm [.int .i64 x0, .string x1, .int .i64 x2, .bool x3, .int .i64 x4, .string x5, .slice x6 x7 x8, .slice x9 y0 y1, .slice y2 y3 y4, .slice y5 y6 y7, .slice y8 y9 z0, .slice z1 z2 z3, .slice z4 z5 z6] []) := Lib.hid ⟨Keeps.below (((HXW.out.trans' HXV.out).trans' HXC.out).drewN' 1) hk9 fun k hk e => by omega, (HLC.out.blk.on ((Ext.refl' wc).drewN' 1)).keeps hk9 (by have := HD.out; omega), hm9, (HLC.out.widths.on ((Ext.refl' wc).drewN' 1)).keeps hk9 (by have := HD.out; omega)⟩
      clear hm9 hk9
      go_region
      go_wp2_with fail
      go_roundw
      case rel => exact .inr ⟨by go_num, HL1⟩
      case measure => simp [intOf]
    · obtain ⟨hx1, hl1⟩ := HS.out
      have HX1 := Lib.hid hx1
      have HLK := Lib.hid hl1
      clear hx1 hl1 HS HL0 HXW
      go_upto_region 13 with fail
      go_loopw [56] (fun iv wr => (iv = .int .i64 0 ∨ iv = .int .i64 1) ∧ Hid (Ext w wr) ∧ Hid (Lnk wr kb mb wb nm [.int .i64 x0, .string x1, .int .i64 x2, .bool x3, .int .i64 x4, .string x5, .slice x6 x7 x8, .slice x9 y0 y1, .slice y2 y3 y4, .slice y5 y6 y7, .slice y8 y9 z0, .slice z1 z2 z3, .slice z4 z5 z6] [])) (fun iv _ => 1 - (intOf iv).toNat)
      case atStart => exact ⟨.inl rfl, HX1, HLK⟩
      case round =>
        clear HX1 HLK
        obtain ⟨rfl | rfl, HX2, HLK2⟩ := hrel
        · skip
          have HRR : Hid (wr.rangeAt rb (ro + 0 * 14) (sv nm :: [.int .i64 x0, .string x1, .int .i64 x2, .bool x3, .int .i64 x4, .string x5, .slice x6 x7 x8, .slice x9 y0 y1, .slice y2 y3 y4, .slice y5 y6 y7, .slice y8 y9 z0, .slice z1 z2 z3, .slice z4 z5 z6])) := Lib.hid fun j v hv => HX2.out.cell' (by have := HRW.out j v hv; simpa using this)
          go_upto_region 15 with (refine wpList_load_mid rfl 69 _ rfl _ _ rfl _ _ HRR.out Tryz.underlying69 rfl info14p ?_)
          have HBV := Lib.hid (Blk.new wr #[sv nm, .int .i64 x0, .string x1, .int .i64 x2, .bool x3, .int .i64 x4, .string x5, .slice x6 x7 x8, .slice x9 y0 y1, .slice y2 y3 y4, .slice y5 y6 y7, .slice y8 y9 z0, .slice z1 z2 z3, .slice z4 z5 z6] 69)
          have hxv := ext_al wr (.cells #[sv nm, .int .i64 x0, .string x1, .int .i64 x2, .bool x3, .int .i64 x4, .string x5, .slice x6 x7 x8, .slice x9 y0 y1, .slice y2 y3 y4, .slice y5 y6 y7, .slice y8 y9 z0, .slice z1 z2 z3, .slice z4 z5 z6] 69)
          generalize hwv : wr.alloc (.cells #[sv nm, .int .i64 x0, .string x1, .int .i64 x2, .bool x3, .int .i64 x4, .string x5, .slice x6 x7 x8, .slice x9 y0 y1, .slice y2 y3 y4, .slice y5 y6 y7, .slice y8 y9 z0, .slice z1 z2 z3, .slice z4 z5 z6] 69) = wV at *
          have HXV := Lib.hid (HX2.out.trans' hxv)
          have HLV := Lib.hid (HLK2.out.on hxv)
          have hcv := HBV.out.cell
          generalize wr.heap.size = vb at *
          clear hwv hxv HLK2 HRR
          have HRI := Lib.hid (rightT (.pointer (some ⟨kb, 0, none⟩)) t.size t p [.int .i64 x0, .string x1, .int .i64 x2, .bool x3, .int .i64 x4, .string x5, .slice x6 x7 x8, .slice x9 y0 y1, .slice y2 y3 y4, .slice y5 y6 y7, .slice y8 y9 z0, .slice z1 z2 z3, .slice z4 z5 z6] wV (RdT.on HXV.out _ _ HRT.out) HG.out (Nat.le_refl _) HSZ.out)
          go_wp2_with (first
            | (refine wpList_load_mid rfl 51 _ rfl vb 1 rfl [.int .i64 x0, .string x1, .int .i64 x2, .bool x3, .int .i64 x4, .string x5, .slice x6 x7 x8, .slice x9 y0 y1, .slice y2 y3 y4, .slice y5 y6 y7, .slice y8 y9 z0, .slice z1 z2 z3, .slice z4 z5 z6] _ (HBV.out.range _ 1 (fun j v hj => by rw [Nat.add_comm]; simpa using hj)) Tryz.underlying51 rfl info13p ?_)
            | (go_at_call 19; refine HRI.out.mono ?_; rintro e w6 ⟨rfl, hx⟩; have HX6 := Lib.hid (HXV.out.trans' hx); have HL6 := Lib.hid (HLV.out.on hx); clear hx))
          go_roundw
          case rel => exact ⟨.inr (by go_num), HX6, HL6⟩
          case measure => simp [intOf]
        · go_upto_region 20 with fail
          go_loopw [72] (fun iv wr => (iv = .int .i64 0 ∨ iv = .int .i64 1) ∧ Hid (Ext w wr) ∧ Hid (Lnk wr kb mb wb nm [.int .i64 x0, .string x1, .int .i64 x2, .bool x3, .int .i64 x4, .string x5, .slice x6 x7 x8, .slice x9 y0 y1, .slice y2 y3 y4, .slice y5 y6 y7, .slice y8 y9 z0, .slice z1 z2 z3, .slice z4 z5 z6] [])) (fun iv _ => 1 - (intOf iv).toNat)
          case atStart => exact ⟨.inl rfl, HX2, HLK2⟩
          case round =>
            clear HX2 HLK2
            obtain ⟨rfl | rfl, HX2, HLK2⟩ := hrel
            · skip
              have HRR : Hid (wr.rangeAt rb (ro + 0 * 14) (sv nm :: [.int .i64 x0, .string x1, .int .i64 x2, .bool x3, .int .i64 x4, .string x5, .slice x6 x7 x8, .slice x9 y0 y1, .slice y2 y3 y4, .slice y5 y6 y7, .slice y8 y9 z0, .slice z1 z2 z3, .slice z4 z5 z6])) := Lib.hid fun j v hv => HX2.out.cell' (by have := HRW.out j v hv; simpa using this)
              go_upto_region 22 with (refine wpList_load_mid rfl 69 _ rfl _ _ rfl _ _ HRR.out Tryz.underlying69 rfl info14p ?_)
              have HBV := Lib.hid (Blk.new wr #[sv nm, .int .i64 x0, .string x1, .int .i64 x2, .bool x3, .int .i64 x4, .string x5, .slice x6 x7 x8, .slice x9 y0 y1, .slice y2 y3 y4, .slice y5 y6 y7, .slice y8 y9 z0, .slice z1 z2 z3, .slice z4 z5 z6] 69)
              have hxv := ext_al wr (.cells #[sv nm, .int .i64 x0, .string x1, .int .i64 x2, .bool x3, .int .i64 x4, .string x5, .slice x6 x7 x8, .slice x9 y0 y1, .slice y2 y3 y4, .slice y5 y6 y7, .slice y8 y9 z0, .slice z1 z2 z3, .slice z4 z5 z6] 69)
              generalize hwv : wr.alloc (.cells #[sv nm, .int .i64 x0, .string x1, .int .i64 x2, .bool x3, .int .i64 x4, .string x5, .slice x6 x7 x8, .slice x9 y0 y1, .slice y2 y3 y4, .slice y5 y6 y7, .slice y8 y9 z0, .slice z1 z2 z3, .slice z4 z5 z6] 69) = wV at *
              have HXV := Lib.hid (HX2.out.trans' hxv)
              have HLV := Lib.hid (HLK2.out.on hxv)
              have hcv := HBV.out.cell
              generalize wr.heap.size = vb at *
              clear hwv hxv HLK2 HRR
              have HRE := Lib.hid (fun W sn (hx : Ext wV W) => reachesT kb mb wb nm nm [.int .i64 x0, .string x1, .int .i64 x2, .bool x3, .int .i64 x4, .string x5, .slice x6 x7 x8, .slice x9 y0 y1, .slice y2 y3 y4, .slice y5 y6 y7, .slice y8 y9 z0, .slice z1 z2 z3, .slice z4 z5 z6] [] sn t p W (HLV.out.on hx) HNL.out (RdT.on (HXV.out.trans' hx) _ _ HRT.out) HG.out HSZ.out)
              go_wp2_with (first
                | (refine wpList_makeMap rfl rfl ?_; intro wS HMS HXS)
                | (go_at_call 20; refine (HRE.out _ _ HXS.out).mono ?_; rintro e w6 ⟨rfl, hx⟩; have HX6 := Lib.hid ((HXV.out.trans' HXS.out).trans' hx); have HL6 := Lib.hid ((HLV.out.on HXS.out).on hx); clear hx))
              go_roundw
              case rel => exact ⟨.inr (by go_num), HX6, HL6⟩
              case measure => simp [intOf]
            · go_upto_region 25 with fail
              have HRC : Hid (∀ W, Ext wr W → W.rangeAt rb ro (sv nm :: [.int .i64 x0, .string x1, .int .i64 x2, .bool x3, .int .i64 x4, .string x5, .slice x6 x7 x8, .slice x9 y0 y1, .slice y2 y3 y4, .slice y5 y6 y7, .slice y8 y9 z0, .slice z1 z2 z3, .slice z4 z5 z6])) := Lib.hid fun W hx j v hv => (HX2.out.trans' hx).cell' (HRW.out j v hv)
              have HCD := Lib.hid (fun W hx => cloneD rb ro c (sv nm :: [.int .i64 x0, .string x1, .int .i64 x2, .bool x3, .int .i64 x4, .string x5, .slice x6 x7 x8, .slice x9 y0 y1, .slice y2 y3 y4, .slice y5 y6 y7, .slice y8 y9 z0, .slice z1 z2 z3, .slice z4 z5 z6]) W rfl (by intro u hu; exact List.all_eq_true.1 (show (sv nm :: [.int .i64 x0, .string x1, .int .i64 x2, .bool x3, .int .i64 x4, .string x5, .slice x6 x7 x8, .slice x9 y0 y1, .slice y2 y3 y4, .slice y5 y6 y7, .slice y8 y9 z0, .slice z1 z2 z3, .slice z4 z5 z6]).all Value.oneCell' = true from rfl) u hu) (HRC.out W hx))
              have hcl := HLK2.out.blk.cell
              go_cut [15] (fun s15 wx => ∃ gb dv, s15 = .pointer (some ⟨gb, 0, none⟩) ∧ Hid (Ext wr wx) ∧ Hid (Blk wx gb #[dv, .map (some mb), .int .i64 0] 83) ∧ Hid (wr.heap.size ≤ gb))
              case first =>
                go_region_with (go_at_call 21; refine (HCD.out _ ((Ext.refl' _).drewN' 1)).mono ?_; rintro e w6 ⟨⟨A6, n6, c6, rfl⟩, hx⟩; have HX6 := Lib.hid (((Ext.refl' wr).drewN' 1).trans' hx); have hcl6 := (HLK2.out.on HX6.out).blk.cell; clear hx)
                all_goals
                  go_wp2_with fail
                  go_meet
                  exact ⟨_, _, rfl, Lib.hid (HX6.out.trans' (ext_al _ _)), Lib.hid (Blk.new _ _ _), Lib.hid HX6.out.size⟩
              obtain ⟨gb, dv, rfl, HXG, HBG, HGB⟩ := hcut
              have HX3 := Lib.hid (HX2.out.trans' HXG.out)
              have HLK3 := Lib.hid (HLK2.out.on HXG.out)
              have HGD : Hid (kb < gb) := Lib.hid (by have := HLK2.out.blk.lt; have := HGB.out; omega)
              clear HXG HX2 HLK2 HCD HRC hcl
              go_upto_region 27 with fail
              have HGW : Hid (mb ≤ wb ∧ wb < gb ∧ w.heap.size ≤ mb) := Lib.hid (by have := HGD.out; have := HD.out; omega)
              go_loopw [96] (fun iv wr => (iv = .int .i64 0 ∧ Hid (Ext w wr ∧ Lnk wr kb mb wb nm [.int .i64 x0, .string x1, .int .i64 x2, .bool x3, .int .i64 x4, .string x5, .slice x6 x7 x8, .slice x9 y0 y1, .slice y2 y3 y4, .slice y5 y6 y7, .slice y8 y9 z0, .slice z1 z2 z3, .slice z4 z5 z6] [] ∧ Blk wr gb #[dv, .map (some mb), .int .i64 0] 83)) ∨ (iv = .int .i64 1 ∧ Hid (Ext w wr ∧ Gram wr gb nm [.int .i64 x0, .string x1, .int .i64 x2, .bool x3, .int .i64 x4, .string x5, .slice x6 x7 x8, .slice x9 y0 y1, .slice y2 y3 y4, .slice y5 y6 y7, .slice y8 y9 z0, .slice z1 z2 z3, .slice z4 z5 z6]))) (fun iv _ => 1 - (intOf iv).toNat)
              case atStart => exact .inl ⟨rfl, Lib.hid ⟨HX3.out, HLK3.out, HBG.out⟩⟩
              case round =>
                clear HX3 HLK3 HBG
                obtain ⟨rfl, HS⟩ | ⟨rfl, HS⟩ := hrel
                · obtain ⟨hx2, hl2, hb2⟩ := HS.out
                  have HX2 := Lib.hid hx2
                  have HLK2 := Lib.hid hl2
                  have HBG := Lib.hid hb2
                  clear hx2 hl2 hb2 HS
                  have HRR : Hid (wr.rangeAt rb (ro + 0 * 14) (sv nm :: [.int .i64 x0, .string x1, .int .i64 x2, .bool x3, .int .i64 x4, .string x5, .slice x6 x7 x8, .slice x9 y0 y1, .slice y2 y3 y4, .slice y5 y6 y7, .slice y8 y9 z0, .slice z1 z2 z3, .slice z4 z5 z6])) := Lib.hid fun j v hv => HX2.out.cell' (by have := HRW.out j v hv; simpa using this)
                  go_upto_region 29 with (refine wpList_load_mid rfl 69 _ rfl _ _ rfl _ _ HRR.out Tryz.underlying69 rfl info14p ?_)
                  have HBV := Lib.hid (Blk.new wr #[sv nm, .int .i64 x0, .string x1, .int .i64 x2, .bool x3, .int .i64 x4, .string x5, .slice x6 x7 x8, .slice x9 y0 y1, .slice y2 y3 y4, .slice y5 y6 y7, .slice y8 y9 z0, .slice z1 z2 z3, .slice z4 z5 z6] 69)
                  have hxv := ext_al wr (.cells #[sv nm, .int .i64 x0, .string x1, .int .i64 x2, .bool x3, .int .i64 x4, .string x5, .slice x6 x7 x8, .slice x9 y0 y1, .slice y2 y3 y4, .slice y5 y6 y7, .slice y8 y9 z0, .slice z1 z2 z3, .slice z4 z5 z6] 69)
                  generalize hwv : wr.alloc (.cells #[sv nm, .int .i64 x0, .string x1, .int .i64 x2, .bool x3, .int .i64 x4, .string x5, .slice x6 x7 x8, .slice x9 y0 y1, .slice y2 y3 y4, .slice y5 y6 y7, .slice y8 y9 z0, .slice z1 z2 z3, .slice z4 z5 z6] 69) = wV at *
                  have HXB := Lib.hid hxv
                  have HXV := Lib.hid (HX2.out.trans' hxv)
                  have HLV := Lib.hid (HLK2.out.on hxv)
                  have hcv := HBV.out.cell
                  have hck := HLV.out.blk.cell
                  generalize wr.heap.size = vb at *
                  clear hwv hxv HLK2 HRR
                  replace HBG := Lib.hid (HBG.out.on HXB.out)
                  have HNA := Lib.hid (namedT kb mb wb nm [.int .i64 x0, .string x1, .int .i64 x2, .bool x3, .int .i64 x4, .string x5, .slice x6 x7 x8, .slice x9 y0 y1, .slice y2 y3 y4, .slice y5 y6 y7, .slice y8 y9 z0, .slice z1 z2 z3, .slice z4 z5 z6] t p wV HLV.out (by have := HD.out; omega) (by have := HD.out; omega) HNL.out (RdT.on HXV.out _ _ HRT.out) HG.out HSZ.out)
                  have hsz1 : (0 : Int) ≤ t.size := by omega
                  have hsz2 : ¬ (1000 : Int) < t.size := by have := HSZ.out; omega
                  generalize t.size = z at *
                  have hmx : max (0 : Int) z = z := by omega
                  go_wp2_with (go_at_call 22; refine HNA.out.mono ?_; rintro e w6 ⟨rfl, hk, hl⟩; have HX6 := Lib.hid (Keeps.below HXV.out hk fun k hk e => by have := HGW.out; omega); have HL6 := Lib.hid hl; have HB6 := Lib.hid (HBG.out.keeps hk (by have := HGW.out; omega)); have hcg := HB6.out.cell; have hfg := HB6.out.frozen; clear hk hl)
                  have HE : Hid (Ext w (w6.setCell ⟨gb, 2, none⟩ (.int .i64 z)) ∧ Gram (w6.setCell ⟨gb, 2, none⟩ (.int .i64 z)) gb nm [.int .i64 x0, .string x1, .int .i64 x2, .bool x3, .int .i64 x4, .string x5, .slice x6 x7 x8, .slice x9 y0 y1, .slice y2 y3 y4, .slice y5 y6 y7, .slice y8 y9 z0, .slice z1 z2 z3, .slice z4 z5 z6]) := Lib.hid ⟨Keeps.below HX6.out (Keeps.set w6 ⟨gb, 2, none⟩ (.int .i64 z)) fun k hk e => by have h1 : k = gb := e; have := HGW.out; omega, ⟨mb, dv, z, HB6.out.set (i := 2) _, HL6.out.terms.keeps (Keeps.set w6 ⟨gb, 2, none⟩ (.int .i64 z)) (by have := HGW.out; show ¬ mb = gb; omega), by have := HGW.out; omega⟩⟩
                  go_roundw
                  case rel => exact .inr ⟨by go_num, HE⟩
                  case measure => simp [intOf]
                · obtain ⟨hx2, hg2⟩ := HS.out
                  have HX2 := Lib.hid hx2
                  have HG2 := Lib.hid hg2
                  clear hx2 hg2 HS
                  go_wp2_with fail
                  exact bodyPost_ret (results_tmp3 Tryz.results10 _ _ _) rfl (hR.out _ _ ⟨⟨gb, rfl, HG2.out⟩, HX2.out⟩)
end Go.Proofs.YtnpaikdaogikcaaGreatDoor
