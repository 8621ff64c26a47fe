/- sorts: two things with a sign between. -/
import Derived.Test.YtnpaikdaogikcaaGreatDoorG16
import Derived.BigQuiet

namespace Go.Proofs.YtnpaikdaogikcaaGreatDoor
set_option maxRecDepth 100000
open Go.RowKit
set_option linter.unusedVariables false
set_option linter.unusedSimpArgs false

theorem info4r : (Tryz.prog.info? 215).map (·.size) = some 4 := by kernel_rfl
theorem info3e : (Tryz.prog.info? 173).map (·.size) = some 3 := by kernel_rfl
theorem infoSo : (Tryz.prog.info? 130).map (fun i => (i.zero, i.size, i.bytes)) = some (some (.int .i64 0), 1, 8) := by kernel_rfl
theorem AE1.bin_cells {op : ByteArray} {x y : E} {p : Nat → Prop} {w : World} {cs : Array Value} (h : AE1 (bin (tl op) x y) p w cs) : ∃ A la B lb b o c ics, cs = #[.string op, .string ⟨#[]⟩, .int .i64 0, .bool false, .int .i64 0, .string ⟨#[]⟩, .slice A 0 la, .slice B 0 lb, .slice (some ⟨b, o, none⟩) 2 c] ∧ RdEs p w [x, y] ics ∧ ∀ j u, ics.flatten[j]? = some u → w.cell? ⟨b, o + j, none⟩ = some u := by
  obtain ⟨vs, C, c, ics, e, hv, hc, hes, hcf⟩ := (show RdE p w (.mk (tl op) [] .none [x, y]) cs.toList from h)
  simp only [V.none, RdV] at hv
  obtain ⟨A, la, B, lb, is, rfl, _⟩ := hv
  have hl := ((RdEs_iff _ _ _ _).1 hes)
  obtain ⟨b, o, rfl, _, hcell⟩ := hcf (by
    cases hl with
    | cons h1 t => intro e; have := h1.len; simp at e; simp [e.1] at this)
  exact ⟨A, la, B, lb, b, o, c, ics, Array.ext' e, hes, hcell⟩
theorem ruled_mod (w : World) : Calls Tryz.prog 137 #[.string ⟨#[37]⟩] w fun e w' => e = .returned (.agg #[.int .i64 4, .int .i64 4, .int .i64 4, .bool false]) ∧ Ext w w' := by
  refine of_post fun R hR => ?_
  have HX0 := Lib.hid (ext_al w (.cells #[.int .i64 0, .int .i64 0, .int .i64 0, .bool false] 215))
  go_enter Tryz.func137, Tryz.ntmps137
  go_wp2_with (refine wpList_new rfl 215 _ _ rfl rfl _ #[.int .i64 4, .int .i64 4, .int .i64 4, .bool false] 215 rfl rfl info4r rfl (ones _ (by rfl)) ?_; intro w5 HX5 HB5)
  exact bodyPost_ret (results_cell Tryz.results137 HB5.out rfl _ Tryz.underlying215 rfl info4r) rfl (hR.out _ _ ⟨rfl, HX5.out⟩)
set_option maxHeartbeats 8000000 in
theorem check_mod (x y : E) (this : Int) (hx : SX x this 63) (hy : SX y this 4) : SX (bin [37] x y) this 4 := by
  intro p w cs h
  refine of_post fun R hR => ?_
  obtain ⟨A, la, B, lb, b, o, c, ics, rfl, hes, hcell⟩ := AE1.bin_cells (op := ⟨#[37]⟩) h
  have HES := Lib.hid hes
  have HCELL := Lib.hid hcell
  have HCK : Hid (∀ i (h : i < 2), SX ([x, y][i]) this ([63, 4][i])) := Lib.hid (fun i h => by
    rcases (by omega : i = 0 ∨ i = 1) with rfl | rfl
    · exact hx
    · exact hy)
  have HXW := Lib.hid ((ext_al w (.cells #[.string ⟨#[37]⟩, .string ⟨#[]⟩, .int .i64 0, .bool false, .int .i64 0, .string ⟨#[]⟩, .slice A 0 la, .slice B 0 lb, .slice (some ⟨b, o, none⟩) 2 c] 118)).trans' (ext_al _ (.cells (envS this) 173)))
  have HEB := Lib.hid ((Blk.new w #[.string ⟨#[37]⟩, .string ⟨#[]⟩, .int .i64 0, .bool false, .int .i64 0, .string ⟨#[]⟩, .slice A 0 la, .slice B 0 lb, .slice (some ⟨b, o, none⟩) 2 c] 118).on (ext_al _ (.cells (envS this) 173)))
  have HVB := Lib.hid (Blk.new (w.alloc (.cells #[.string ⟨#[37]⟩, .string ⟨#[]⟩, .int .i64 0, .bool false, .int .i64 0, .string ⟨#[]⟩, .slice A 0 la, .slice B 0 lb, .slice (some ⟨b, o, none⟩) 2 c] 118)) (envS this) 173)
  rw [World.size_alloc] at HVB
  clear h hx hy hes hcell
  go_enter Tryz.func108, Tryz.ntmps108
  go_upto_region 13 with fail
  generalize hw2 : (w.alloc (.cells #[.string ⟨#[37]⟩, .string ⟨#[]⟩, .int .i64 0, .bool false, .int .i64 0, .string ⟨#[]⟩, .slice A 0 la, .slice B 0 lb, .slice (some ⟨b, o, none⟩) 2 c] 118)).alloc (.cells (envS this) 173) = w2 at *
  clear hw2
  generalize w.heap.size = eb at *
  go_loopw [42, 7] (fun iv gv wz => ∃ i : Nat, i ≤ 2 ∧ iv = .int .i64 i ∧ Hid (wz.ownsRow w2.heap.size 130 1 gv i ((([63, 4] : List Int).take i).map I64)) ∧ Hid (Ext w2 wz)) (fun iv _ _ => 2 - (intOf iv).toNat)
  case atStart => exact ⟨0, Nat.zero_le _, rfl, Lib.hid (own_nil w2 w2 _ _), Lib.hid (Ext.refl' _)⟩
  case round =>
    obtain ⟨i, hi, rfl, HO, HXL⟩ := hrel
    obtain ⟨GA, gc, rfl⟩ := own_form HO.out
    have hvb : wr.cell? ⟨eb + 1, 0, none⟩ = some (.int .i64 this) := (HVB.out.on HXL.out).cell 0
    have HVR := Lib.hid (HVB.out.on HXL.out)
    have HER := Lib.hid (HEB.out.on HXL.out)
    by_cases hlt : i < 2
    · obtain ⟨ci, hri, hrg⟩ := RdEs_row HES.out HCELL.out (i := i) hlt
      have hxw := HXW.out.trans' HXL.out
      have HRG : Hid (wr.rangeAt b (o + i * 9) ci) := Lib.hid fun j v hv => hxw.cell' (hrg j v hv)
      obtain ⟨yo, ym, yk, yb, yn, ys, yA, yla, yc, yB, ylb, yd, yC, ylc, ye, rfl⟩ := RdE.nine hri
      have hck := HCK.out i hlt
      have htk : (([63, 4] : List Int).take (i + 1)).map I64 = (([63, 4] : List Int).take i).map I64 ++ [I64 (([63, 4] : List Int)[i])] := by rw [List.take_add_one, List.getElem?_eq_getElem (by exact hlt), Option.toList_some, List.map_append]; rfl
      have HTK := Lib.hid htk
      have hxv := ext_al wr (.cells (X9 yo ym yk yb yn ys yA yla yc yB ylb yd yC ylc ye) 118)
      have HC := Lib.hid (hck p (wr.alloc (.cells (X9 yo ym yk yb yn ys yA yla yc yB ylb yd yC ylc ye) 118)) (X9 yo ym yk yb yn ys yA yla yc yB ylb yd yC ylc ye) (RdE.on (hxw.trans' hxv) _ _ hri))
      have HVX := Lib.hid (HVR.out.on hxv)
      have HXV := Lib.hid hxv
      generalize (([63, 4] : List Int)[i]) = s at *
      generalize (([63, 4] : List Int).take i).map I64 = us at *
      clear hri hrg hxw hck htk hxv HES HCELL
      have HON : Hid (∀ u ∈ (#[.int .i64 s] : Array Value).toList, u.oneCell' = true) := Lib.hid (fun u hu => by simp at hu; subst hu; rfl)
      go_wp2_with (first
        | (refine wpList_load_mid rfl 118 _ rfl _ _ rfl _ _ HRG.out Tryz.underlying118 rfl info9x ?_)
        | (refine wpList_load_blk rfl 173 _ rfl _ _ _ HVX.out rfl _ Tryz.underlying173 rfl info3e ?_)
        | (go_at_call 108; refine HC.out.mono ?_; rintro r w5 ⟨rfl, hx⟩; have HX5 := Lib.hid (HXL.out.trans' (HXV.out.trans' hx)); have HO5 := Lib.hid (own_ext HO.out (HXV.out.trans' hx)); clear hx)
        | (at_builtin; go_must (refine wpList_push _ rfl _ _ 171 rfl w2 130 (.int .i64 0) 1 8 Tryz.underlying171 infoSo rfl (by decide) #[.int .i64 s] rfl (.slice GA i gc) i us rfl HO5.out HON.out rfl (by omega) (by decide) HX5.out ?_); intro u' w6 HO6 HX6 HPU))
      go_roundw
      case rel => exact ⟨i + 1, hlt, by go_num, Lib.hid (by rw [HTK.out]; exact HO6.out), HX6⟩
      case measure => simp [intOf]; omega
    · obtain rfl : i = 2 := by omega
      obtain ⟨g, go, rfl, hgc⟩ := (cellsAt_of_own HO.out) (by simp)
      have hg0 : wr.cell? ⟨g, go, none⟩ = some (.int .i64 63) := hgc 0 _ rfl
      have hg1 : wr.cell? ⟨g, go + 1, none⟩ = some (.int .i64 4) := hgc 1 _ rfl
      have hec : wr.cell? ⟨eb, 0, none⟩ = some (.string ⟨#[37]⟩) := HER.out.cell 0
      clear hgc HES HCELL HCK
      go_upto_region 21 with (go_at_call 137; refine (ruled_mod _).mono ?_; rintro r w5 ⟨rfl, hx⟩; have HX5 := Lib.hid hx; clear hx)
      have hxr := ext_al w5 (.cells #[.int .i64 4, .int .i64 4, .int .i64 4, .bool false] 215)
      have HRB := Lib.hid (Blk.new w5 #[.int .i64 4, .int .i64 4, .int .i64 4, .bool false] 215)
      have hz0 := hxr.cell' (HX5.out.cell' hg0)
      have hz1 := hxr.cell' (HX5.out.cell' hg1)
      have HXF := Lib.hid (HXW.out.trans' (HXL.out.trans' (HX5.out.trans' hxr)))
      generalize hw6 : w5.alloc (.cells #[.int .i64 4, .int .i64 4, .int .i64 4, .bool false] 215) = w6 at *
      clear hw6 hxr hg0 hg1 hec
      generalize w5.heap.size = rb at *
      have hr0 : w6.cell? ⟨rb, 0, none⟩ = some (.int .i64 4) := HRB.out.cell 0
      have hr1 : w6.cell? ⟨rb, 1, none⟩ = some (.int .i64 4) := HRB.out.cell 1
      have hr2 : w6.cell? ⟨rb, 2, none⟩ = some (.int .i64 4) := HRB.out.cell 2
      have hr3 : w6.cell? ⟨rb, 3, none⟩ = some (.bool false) := HRB.out.cell 3
      have hb0 : (bits BinOp.and IntKind.i64 63 4 != 0) = true := by decide
      have hb1 : (bits BinOp.and IntKind.i64 4 4 != 0) = true := by decide
      go_region
      go_upto_region 23 with fail
      go_region
      all_goals
        go_wp2_with fail
        exact hR.out _ _ ⟨rfl, HXF.out.trans' ((((Ext.refl' w6).drewN' 1)).drewN' 1)⟩
theorem ruled_eq (w : World) : Calls Tryz.prog 137 #[.string ⟨#[61, 61]⟩] w fun e w' => e = .returned (.agg #[.int .i64 63, .int .i64 63, .int .i64 2, .bool false]) ∧ Ext w w' := by
  refine of_post fun R hR => ?_
  have HX0 := Lib.hid (ext_al w (.cells #[.int .i64 0, .int .i64 0, .int .i64 0, .bool false] 215))
  go_enter Tryz.func137, Tryz.ntmps137
  go_wp2_with (refine wpList_new rfl 215 _ _ rfl rfl _ #[.int .i64 63, .int .i64 63, .int .i64 2, .bool false] 215 rfl rfl info4r rfl (ones _ (by rfl)) ?_; intro w5 HX5 HB5)
  exact bodyPost_ret (results_cell Tryz.results137 HB5.out rfl _ Tryz.underlying215 rfl info4r) rfl (hR.out _ _ ⟨rfl, HX5.out⟩)
set_option maxHeartbeats 8000000 in
theorem check_eq (x y : E) (this : Int) (hx : SX x this 4) (hy : SX y this 4) : SX (bin [61, 61] x y) this 2 := by
  intro p w cs h
  refine of_post fun R hR => ?_
  obtain ⟨A, la, B, lb, b, o, c, ics, rfl, hes, hcell⟩ := AE1.bin_cells (op := ⟨#[61, 61]⟩) h
  have HES := Lib.hid hes
  have HCELL := Lib.hid hcell
  have HCK : Hid (∀ i (h : i < 2), SX ([x, y][i]) this ([4, 4][i])) := Lib.hid (fun i h => by
    rcases (by omega : i = 0 ∨ i = 1) with rfl | rfl
    · exact hx
    · exact hy)
  have HXW := Lib.hid ((ext_al w (.cells #[.string ⟨#[61, 61]⟩, .string ⟨#[]⟩, .int .i64 0, .bool false, .int .i64 0, .string ⟨#[]⟩, .slice A 0 la, .slice B 0 lb, .slice (some ⟨b, o, none⟩) 2 c] 118)).trans' (ext_al _ (.cells (envS this) 173)))
  have HEB := Lib.hid ((Blk.new w #[.string ⟨#[61, 61]⟩, .string ⟨#[]⟩, .int .i64 0, .bool false, .int .i64 0, .string ⟨#[]⟩, .slice A 0 la, .slice B 0 lb, .slice (some ⟨b, o, none⟩) 2 c] 118).on (ext_al _ (.cells (envS this) 173)))
  have HVB := Lib.hid (Blk.new (w.alloc (.cells #[.string ⟨#[61, 61]⟩, .string ⟨#[]⟩, .int .i64 0, .bool false, .int .i64 0, .string ⟨#[]⟩, .slice A 0 la, .slice B 0 lb, .slice (some ⟨b, o, none⟩) 2 c] 118)) (envS this) 173)
  rw [World.size_alloc] at HVB
  clear h hx hy hes hcell
  go_enter Tryz.func108, Tryz.ntmps108
  go_upto_region 13 with fail
  generalize hw2 : (w.alloc (.cells #[.string ⟨#[61, 61]⟩, .string ⟨#[]⟩, .int .i64 0, .bool false, .int .i64 0, .string ⟨#[]⟩, .slice A 0 la, .slice B 0 lb, .slice (some ⟨b, o, none⟩) 2 c] 118)).alloc (.cells (envS this) 173) = w2 at *
  clear hw2
  generalize w.heap.size = eb at *
  go_loopw [42, 7] (fun iv gv wz => ∃ i : Nat, i ≤ 2 ∧ iv = .int .i64 i ∧ Hid (wz.ownsRow w2.heap.size 130 1 gv i ((([4, 4] : List Int).take i).map I64)) ∧ Hid (Ext w2 wz)) (fun iv _ _ => 2 - (intOf iv).toNat)
  case atStart => exact ⟨0, Nat.zero_le _, rfl, Lib.hid (own_nil w2 w2 _ _), Lib.hid (Ext.refl' _)⟩
  case round =>
    obtain ⟨i, hi, rfl, HO, HXL⟩ := hrel
    obtain ⟨GA, gc, rfl⟩ := own_form HO.out
    have hvb : wr.cell? ⟨eb + 1, 0, none⟩ = some (.int .i64 this) := (HVB.out.on HXL.out).cell 0
    have HVR := Lib.hid (HVB.out.on HXL.out)
    have HER := Lib.hid (HEB.out.on HXL.out)
    by_cases hlt : i < 2
    · obtain ⟨ci, hri, hrg⟩ := RdEs_row HES.out HCELL.out (i := i) hlt
      have hxw := HXW.out.trans' HXL.out
      have HRG : Hid (wr.rangeAt b (o + i * 9) ci) := Lib.hid fun j v hv => hxw.cell' (hrg j v hv)
      obtain ⟨yo, ym, yk, yb, yn, ys, yA, yla, yc, yB, ylb, yd, yC, ylc, ye, rfl⟩ := RdE.nine hri
      have hck := HCK.out i hlt
      have htk : (([4, 4] : List Int).take (i + 1)).map I64 = (([4, 4] : List Int).take i).map I64 ++ [I64 (([4, 4] : List Int)[i])] := by rw [List.take_add_one, List.getElem?_eq_getElem (by exact hlt), Option.toList_some, List.map_append]; rfl
      have HTK := Lib.hid htk
      have hxv := ext_al wr (.cells (X9 yo ym yk yb yn ys yA yla yc yB ylb yd yC ylc ye) 118)
      have HC := Lib.hid (hck p (wr.alloc (.cells (X9 yo ym yk yb yn ys yA yla yc yB ylb yd yC ylc ye) 118)) (X9 yo ym yk yb yn ys yA yla yc yB ylb yd yC ylc ye) (RdE.on (hxw.trans' hxv) _ _ hri))
      have HVX := Lib.hid (HVR.out.on hxv)
      have HXV := Lib.hid hxv
      generalize (([4, 4] : List Int)[i]) = s at *
      generalize (([4, 4] : List Int).take i).map I64 = us at *
      clear hri hrg hxw hck htk hxv HES HCELL
      have HON : Hid (∀ u ∈ (#[.int .i64 s] : Array Value).toList, u.oneCell' = true) := Lib.hid (fun u hu => by simp at hu; subst hu; rfl)
      go_wp2_with (first
        | (refine wpList_load_mid rfl 118 _ rfl _ _ rfl _ _ HRG.out Tryz.underlying118 rfl info9x ?_)
        | (refine wpList_load_blk rfl 173 _ rfl _ _ _ HVX.out rfl _ Tryz.underlying173 rfl info3e ?_)
        | (go_at_call 108; refine HC.out.mono ?_; rintro r w5 ⟨rfl, hx⟩; have HX5 := Lib.hid (HXL.out.trans' (HXV.out.trans' hx)); have HO5 := Lib.hid (own_ext HO.out (HXV.out.trans' hx)); clear hx)
        | (at_builtin; go_must (refine wpList_push _ rfl _ _ 171 rfl w2 130 (.int .i64 0) 1 8 Tryz.underlying171 infoSo rfl (by decide) #[.int .i64 s] rfl (.slice GA i gc) i us rfl HO5.out HON.out rfl (by omega) (by decide) HX5.out ?_); intro u' w6 HO6 HX6 HPU))
      go_roundw
      case rel => exact ⟨i + 1, hlt, by go_num, Lib.hid (by rw [HTK.out]; exact HO6.out), HX6⟩
      case measure => simp [intOf]; omega
    · obtain rfl : i = 2 := by omega
      obtain ⟨g, go, rfl, hgc⟩ := (cellsAt_of_own HO.out) (by simp)
      have hg0 : wr.cell? ⟨g, go, none⟩ = some (.int .i64 4) := hgc 0 _ rfl
      have hg1 : wr.cell? ⟨g, go + 1, none⟩ = some (.int .i64 4) := hgc 1 _ rfl
      have hec : wr.cell? ⟨eb, 0, none⟩ = some (.string ⟨#[61, 61]⟩) := HER.out.cell 0
      clear hgc HES HCELL HCK
      go_upto_region 21 with (go_at_call 137; refine (ruled_eq _).mono ?_; rintro r w5 ⟨rfl, hx⟩; have HX5 := Lib.hid hx; clear hx)
      have hxr := ext_al w5 (.cells #[.int .i64 63, .int .i64 63, .int .i64 2, .bool false] 215)
      have HRB := Lib.hid (Blk.new w5 #[.int .i64 63, .int .i64 63, .int .i64 2, .bool false] 215)
      have hz0 := hxr.cell' (HX5.out.cell' hg0)
      have hz1 := hxr.cell' (HX5.out.cell' hg1)
      have HXF := Lib.hid (HXW.out.trans' (HXL.out.trans' (HX5.out.trans' hxr)))
      generalize hw6 : w5.alloc (.cells #[.int .i64 63, .int .i64 63, .int .i64 2, .bool false] 215) = w6 at *
      clear hw6 hxr hg0 hg1 hec
      generalize w5.heap.size = rb at *
      have hr0 : w6.cell? ⟨rb, 0, none⟩ = some (.int .i64 63) := HRB.out.cell 0
      have hr1 : w6.cell? ⟨rb, 1, none⟩ = some (.int .i64 63) := HRB.out.cell 1
      have hr2 : w6.cell? ⟨rb, 2, none⟩ = some (.int .i64 2) := HRB.out.cell 2
      have hr3 : w6.cell? ⟨rb, 3, none⟩ = some (.bool false) := HRB.out.cell 3
      have hb0 : (bits BinOp.and IntKind.i64 4 63 != 0) = true := by decide
      have hb1 : (bits BinOp.and IntKind.i64 4 63 != 0) = true := by decide
      go_region
      go_upto_region 23 with fail
      go_region
      all_goals
        go_wp2_with fail
        exact hR.out _ _ ⟨rfl, HXF.out.trans' ((((Ext.refl' w6).drewN' 1)).drewN' 1)⟩
end Go.Proofs.YtnpaikdaogikcaaGreatDoor

/- eval: what a number, this is worth; a remainder of two numbers. -/
namespace Go.Proofs.YtnpaikdaogikcaaGreatDoor
set_option maxRecDepth 100000
open Go.RowKit
set_option linter.unusedVariables false
set_option linter.unusedSimpArgs false

/-- An environment without names, and what this is in it. -/
abbrev envG (k : Int) (t : Bool) (n : Int) (s : ByteArray) (A : Option Addr) (a la : Nat) (B : Option Addr) (b lb : Nat) : Array Value := #[.int .i64 k, .bool t, .int .i64 n, .string s, .slice A a la, .slice B b lb, .slice none 0 0, .slice none 0 0]
abbrev zero7a : Array Value := #[.int .i64 0, .bool false, .int .i64 0, .string ⟨#[]⟩, .slice none 0 0, .slice none 0 0, .int .i64 0]
abbrev ansN (n : Int) (A : Option Addr) (la : Nat) (B : Option Addr) (lb : Nat) : Array Value := #[.int .i64 2, .bool false, .int .i64 n, .string ⟨#[]⟩, .slice A 0 la, .slice B 0 lb, .int .i64 0]
abbrev ansT (t : Bool) : Array Value := #[.int .i64 1, .bool t, .int .i64 0, .string ⟨#[]⟩, .slice none 0 0, .slice none 0 0, .int .i64 0]
theorem info7a : (Tryz.prog.info? 189).map (·.size) = some 7 := by kernel_rfl
/-- An expression is worth a number. -/
def GV (x : E) (env : Array Value) (n : Int) : Prop := ∀ (p : Nat → Prop) (w : World) (cs : Array Value), AE1 x p w cs → Calls Tryz.prog 123 #[.agg cs, .agg env] w fun e w' => (∃ A la B lb, e = .returned (.agg (ansN n A la B lb))) ∧ Ext w w'
/-- Three blocks that a call makes at its head. -/
theorem three (w : World) (o1 o2 : Obj) (z : Array Value) (t : TypeId) : Blk (((w.alloc o1).alloc o2).alloc (.cells z t)) (w.heap.size + 2) z t ∧ Ext w (((w.alloc o1).alloc o2).alloc (.cells z t)) := by
  have h := Blk.new ((w.alloc o1).alloc o2) z t
  rw [World.size_alloc, World.size_alloc] at h
  exact ⟨h, ((ext_al w o1).trans' (ext_al _ o2)).trans' (ext_al _ _)⟩
theorem keep_result {w w1 w2 : World} {rb : Nat} (hx : Ext w w1) (hk : Keeps (fun b => b = rb) w1 w2) (hr : w.heap.size ≤ rb) : Ext w w2 := Keeps.below hx hk fun k hlt e => by have h1 : k = rb := e; omega
set_option maxHeartbeats 1000000 in
theorem gotLit (n : Int) (k : Int) (t : Bool) (m : Int) (s : ByteArray) (A : Option Addr) (a la : Nat) (B : Option Addr) (b lb : Nat) : GV (lit (.ofInt n)) (envG k t m s A a la B b lb) n := by
  intro p w cs h
  refine of_post fun R hR => ?_
  obtain ⟨XA, xla, XB, xlb, XC, xc, rfl⟩ := h.lit_cells
  have H3 := Lib.hid (three w (.cells #[.string ⟨#[108, 105, 116]⟩, .string ⟨#[]⟩, .int .i64 2, .bool false, .int .i64 n, .string ⟨#[]⟩, .slice XA 0 xla, .slice XB 0 xlb, .slice XC 0 xc] 118) (.cells (envG k t m s A a la B b lb) 92) zero7a 189)
  clear h
  go_enter Tryz.func123, Tryz.ntmps123
  go_wp2_with (refine wpList_store_blk rfl 189 _ _ rfl rfl (w.heap.size + 2) zero7a (ansN n XA xla XB xlb) 189 H3.out.1 rfl rfl info7a rfl (by simp [Value.oneCell']) ?_; intro w9 HB9 HK9)
  exact bodyPost_ret (results_cell Tryz.results123 HB9.out rfl _ Tryz.underlying189 rfl info7a) rfl (hR.out _ _ ⟨⟨XA, xla, XB, xlb, rfl⟩, keep_result H3.out.2 HK9.out (by omega)⟩)
set_option maxHeartbeats 1000000 in
theorem gotThis (n : Int) (A : Option Addr) (la : Nat) (B : Option Addr) (lb : Nat) : GV (.mk kThis [] .none []) (envG 2 false n ⟨#[]⟩ A 0 la B 0 lb) n := by
  intro p w cs h
  refine of_post fun R hR => ?_
  obtain ⟨XA, xla, XB, xlb, XC, xc, rfl⟩ := h.this_cells
  have H3 := Lib.hid (three w (.cells #[.string ⟨#[116, 104, 105, 115]⟩, .string ⟨#[]⟩, .int .i64 0, .bool false, .int .i64 0, .string ⟨#[]⟩, .slice XA 0 xla, .slice XB 0 xlb, .slice XC 0 xc] 118) (.cells (envG 2 false n ⟨#[]⟩ A 0 la B 0 lb) 92) zero7a 189)
  clear h
  go_enter Tryz.func123, Tryz.ntmps123
  go_wp2_with (refine wpList_store_blk rfl 189 _ _ rfl rfl (w.heap.size + 2) zero7a (ansN n A la B lb) 189 H3.out.1 rfl rfl info7a rfl (by simp [Value.oneCell']) ?_; intro w9 HB9 HK9)
  exact bodyPost_ret (results_cell Tryz.results123 HB9.out rfl _ Tryz.underlying189 rfl info7a) rfl (hR.out _ _ ⟨⟨A, la, B, lb, rfl⟩, keep_result H3.out.2 HK9.out (by omega)⟩)
theorem numberE (n : Int) (w : World) : Calls Tryz.prog 231 #[.int .i64 n, .int .i64 0] w fun e w' => e = .returned (.agg (ansN n none 0 none 0)) ∧ Ext w w' := by
  refine of_post fun R hR => ?_
  have HX := Lib.hid (ext_al w (.cells zero7a 189))
  have HB := Lib.hid (Blk.new w zero7a 189)
  have HNV := fun w => Lib.hid (numberV n w)
  go_enter Tryz.func231, Tryz.ntmps231
  go_wp2_with (first
    | (go_at_call 39; refine (HNV _).out.mono ?_; rintro e w2 ⟨rfl, hx⟩; have HX2 := Lib.hid (HX.out.trans' hx); have HB2 := Lib.hid (HB.out.on hx); clear hx)
    | (refine wpList_store_blk rfl 189 _ _ rfl rfl w.heap.size zero7a (ansN n none 0 none 0) 189 HB2.out rfl rfl info7a rfl (by simp [Value.oneCell']) ?_; intro w9 HB9 HK9))
  exact bodyPost_ret (results_cell Tryz.results231 HB9.out rfl _ Tryz.underlying189 rfl info7a) rfl (hR.out _ _ ⟨rfl, keep_result HX2.out HK9.out (Nat.le_refl _)⟩)
theorem truthV (t : Bool) (w : World) : Calls Tryz.prog 93 #[.bool t] w fun e w' => e = .returned (.agg #[.int .i64 1, .bool t, .int .i64 0, .string ⟨#[]⟩, .slice none 0 0, .slice none 0 0]) ∧ Ext w w' := by
  refine of_post fun R hR => ?_
  go_enter Tryz.func93, Tryz.ntmps93
  go_wp2_with (refine wpList_new rfl 32 _ _ rfl rfl _ #[.int .i64 1, .bool t, .int .i64 0, .string ⟨#[]⟩, .slice none 0 0, .slice none 0 0] 32 rfl rfl info6p rfl (ones _ (by rfl)) ?_; intro w5 HX5 HB5)
  exact bodyPost_ret (results_cell Tryz.results93 HB5.out rfl _ Tryz.underlying32 rfl info6p) rfl (hR.out _ _ ⟨rfl, HX5.out⟩)
theorem truthE (t : Bool) (w : World) : Calls Tryz.prog 195 #[.bool t] w fun e w' => e = .returned (.agg (ansT t)) ∧ Ext w w' := by
  refine of_post fun R hR => ?_
  have HX := Lib.hid (ext_al w (.cells zero7a 189))
  have HB := Lib.hid (Blk.new w zero7a 189)
  have HNV := fun w => Lib.hid (truthV t w)
  go_enter Tryz.func195, Tryz.ntmps195
  go_wp2_with (first
    | (go_at_call 93; refine (HNV _).out.mono ?_; rintro e w2 ⟨rfl, hx⟩; have HX2 := Lib.hid (HX.out.trans' hx); have HB2 := Lib.hid (HB.out.on hx); clear hx)
    | (refine wpList_store_blk rfl 189 _ _ rfl rfl w.heap.size zero7a (ansT t) 189 HB2.out rfl rfl info7a rfl (by simp [Value.oneCell']) ?_; intro w9 HB9 HK9))
  exact bodyPost_ret (results_cell Tryz.results195 HB9.out rfl _ Tryz.underlying189 rfl info7a) rfl (hR.out _ _ ⟨rfl, keep_result HX2.out HK9.out (Nat.le_refl _)⟩)
theorem modW (a b : Int) (hb : 0 < b) (w : World) : Calls Tryz.prog 207 #[.int .i64 a, .int .i64 b] w fun e w' => e = .returned (.tuple #[.int .i64 (a.tmod b), .int .i64 0]) ∧ w' = w := by
  refine of_post fun R hR => ?_
  have h1 : (b == 0) = false := by rw [beq_eq_false_iff_ne]; omega
  have h2 : (b == -1) = false := by rw [beq_eq_false_iff_ne]; omega
  have h3 : ¬ b = 0 := by omega
  go_enter Tryz.func207, Tryz.ntmps207
  go_wp2_with fail
  exact hR.out _ _ ⟨rfl, rfl⟩
end Go.Proofs.YtnpaikdaogikcaaGreatDoor

/- eval: what is done with two numbers. -/
namespace Go.Proofs.YtnpaikdaogikcaaGreatDoor
set_option maxRecDepth 100000
open Go.RowKit
set_option linter.unusedVariables false
set_option linter.unusedSimpArgs false

/-- Two numbers in a row. -/
structure Two (w : World) (g o : Nat) (a b : Int) (A : Option Addr) (la : Nat) (B : Option Addr) (lb : Nat) (C : Option Addr) (lc : Nat) (D : Option Addr) (ld : Nat) : Prop where
  fst : w.rangeAt g o (vC a A la B lb).toList
  snd : w.rangeAt g (o + 6) (vC b C lc D ld).toList
section
variable {w w' : World} {g o : Nat} {a b : Int} {A : Option Addr} {la : Nat} {B : Option Addr} {lb : Nat} {C : Option Addr} {lc : Nat} {D : Option Addr} {ld : Nat}
theorem Two.on (h : Two w g o a b A la B lb C lc D ld) (hx : Ext w w') : Two w' g o a b A la B lb C lc D ld := ⟨fun j v hv => hx.cell' (h.fst j v hv), fun j v hv => hx.cell' (h.snd j v hv)⟩
theorem Two.get (h : Two w g o a b A la B lb C lc D ld) (i : Nat) (hi : i < 2) : ∃ n X lx Y ly, w.rangeAt g (o + i * 6) (vC n X lx Y ly).toList := by
  rcases (by omega : i = 0 ∨ i = 1) with rfl | rfl
  · exact ⟨a, A, la, B, lb, by simpa using h.fst⟩
  · exact ⟨b, C, lc, D, ld, by simpa using h.snd⟩
end
theorem rec1 (n : Int) (X : Option Addr) (lx : Nat) (Y : Option Addr) (ly : Nat) (w : World) : Calls Tryz.prog 230 #[.agg (vC n X lx Y ly)] w fun e w' => e = .returned (.bool false) ∧ Ext w w' := by
  refine of_post fun R hR => ?_
  have HX := Lib.hid (ext_al w (.cells (vC n X lx Y ly) 32))
  go_enter Tryz.func230, Tryz.ntmps230
  go_wp2_with fail
  exact hR.out _ _ ⟨rfl, HX.out⟩
set_option maxHeartbeats 1000000 in
theorem recIdx {w : World} {g o : Nat} {a b : Int} {A : Option Addr} {la : Nat} {B : Option Addr} {lb : Nat} {C : Option Addr} {lc : Nat} {D : Option Addr} {ld : Nat} (h : Two w g o a b A la B lb C lc D ld) (c : Nat) :
    Calls Tryz.prog 255 #[.slice (some ⟨g, o, none⟩) 2 c, .func (.func 230) #[] #[]] w fun e w' => e = .returned (.int .i64 (-1)) ∧ Ext w w' := by
  refine of_post fun R hR => ?_
  have HT := Lib.hid h
  have hent : Enters Tryz.prog 230 := enters_of Tryz.func230 (by kernel_rfl) rfl
  unfold Enters at hent
  clear h
  go_enter Tryz.func255, Tryz.ntmps255
  go_wp2_with fail
  go_loopw [8] (fun iv wz => ∃ i : Nat, i ≤ 2 ∧ iv = .int .i64 i ∧ Hid (Ext w wz)) (fun iv _ => 2 - (intOf iv).toNat)
  case atStart => exact ⟨0, by omega, rfl, Lib.hid (Ext.refl' _)⟩
  case round =>
    obtain ⟨i, hi, rfl, HX⟩ := hrel
    by_cases hlt : i < 2
    · obtain ⟨n, X, lx, Y, ly, hrg⟩ := (HT.out.on HX.out).get i hlt
      have HRG := Lib.hid hrg
      have HR1 := fun w => Lib.hid (rec1 n X lx Y ly w)
      clear hrg HT
      go_wp2_with (first
        | (refine wpList_load_mid rfl 32 _ rfl _ _ rfl _ _ HRG.out Tryz.underlying32 rfl info6p ?_)
        | (refine (HR1 _).out.mono ?_; rintro e w5 ⟨rfl, hx⟩; have HX5 := Lib.hid (HX.out.trans' hx); clear hx))
      go_roundw
      case rel => exact ⟨i + 1, hlt, by go_num, HX5⟩
      case measure => simp [intOf]; omega
    · obtain rfl : i = 2 := by omega
      clear HT
      go_wp2_with fail
      exact hR.out _ _ ⟨rfl, HX.out⟩
theorem recNone {w : World} {g o : Nat} {a b : Int} {A : Option Addr} {la : Nat} {B : Option Addr} {lb : Nat} {C : Option Addr} {lc : Nat} {D : Option Addr} {ld : Nat} (h : Two w g o a b A la B lb C lc D ld) (c : Nat) :
    Calls Tryz.prog 228 #[.slice (some ⟨g, o, none⟩) 2 c, .func (.func 230) #[] #[]] w fun e w' => e = .returned (.bool false) ∧ Ext w w' := by
  refine of_post fun R hR => ?_
  have HC := Lib.hid (recIdx h c)
  clear h
  go_enter Tryz.func228, Tryz.ntmps228
  go_wp2_with (go_at_call 255; refine HC.out.mono ?_; rintro e w5 ⟨rfl, hx⟩; have HX := Lib.hid hx; clear hx)
  exact hR.out _ _ ⟨rfl, HX.out⟩
set_option maxHeartbeats 2000000 in
theorem reckonMod {w : World} {g o : Nat} {a b : Int} {A : Option Addr} {la : Nat} {B : Option Addr} {lb : Nat} {C : Option Addr} {lc : Nat} {D : Option Addr} {ld : Nat} (h : Two w g o a b A la B lb C lc D ld) (c : Nat) (hb : 0 < b) :
    Calls Tryz.prog 197 #[.string ⟨#[37]⟩, .slice (some ⟨g, o, none⟩) 2 c] w fun e w' => e = .returned (.agg (ansN (a.tmod b) none 0 none 0)) ∧ Ext w w' := by
  refine of_post fun R hR => ?_
  have hx := ext_al w (.cells zero7a 189)
  have HX := Lib.hid hx
  have HB := Lib.hid (Blk.new w zero7a 189)
  have HRN := Lib.hid (recNone (h.on hx) c)
  have HT := Lib.hid h
  have HMD := fun w => Lib.hid (modW a b hb w)
  have HNE := fun n w => Lib.hid (numberE n w)
  clear h hx
  go_enter Tryz.func197, Tryz.ntmps197
  go_upto_region 3 with (go_at_call 228; refine HRN.out.mono ?_; rintro e w2 ⟨rfl, hx⟩; have HX2 := Lib.hid (HX.out.trans' hx); have HB2 := Lib.hid (HB.out.on hx); clear hx)
  have hq0 : w2.cell? ⟨g, o + 2, none⟩ = some (.int .i64 a) := (HT.out.on HX2.out).fst 2 _ rfl
  have hq1 : w2.cell? ⟨g, o + 6 + 2, none⟩ = some (.int .i64 b) := (HT.out.on HX2.out).snd 2 _ rfl
  clear HT
  go_region
  have HX3 := Lib.hid (HX2.out.trans' ((Ext.refl' w2).drewN' 1))
  have HB3 := Lib.hid (HB2.out.on ((Ext.refl' w2).drewN' 1))
  go_wp2_with (first
    | (go_at_call 207; refine (HMD _).out.mono ?_; rintro e w4 ⟨rfl, hw⟩; obtain rfl := hw)
    | (go_at_call 231; refine (HNE _ _).out.mono ?_; rintro e w4 ⟨rfl, hx⟩; have HX4 := Lib.hid (HX3.out.trans' hx); have HB4 := Lib.hid (HB3.out.on hx); clear hx)
    | (refine wpList_store_blk rfl 189 _ _ rfl rfl w.heap.size zero7a (ansN (a.tmod b) none 0 none 0) 189 HB4.out rfl rfl info7a rfl (by simp [Value.oneCell']) ?_; intro w9 HB9 HK9))
  exact bodyPost_ret (results_cell Tryz.results197 HB9.out rfl _ Tryz.underlying189 rfl info7a) rfl (hR.out _ _ ⟨rfl, keep_result HX4.out HK9.out (Nat.le_refl _)⟩)
end Go.Proofs.YtnpaikdaogikcaaGreatDoor
