/- eval: a remainder, an equality. -/
import Derived.Test.YtnpaikdaogikcaaGreatDoorG17
import Derived.Test.YtnpaikdaogikcaaGreatDoorG12
import Derived.Test.YtnpaikdaogikcaaGreatDoorG08
import Derived.Test.YtnpaikdaogikcaaGreatDoorG10

namespace Go.Proofs.YtnpaikdaogikcaaGreatDoor
set_option maxRecDepth 100000
open Go.RowKit
set_option linter.unusedVariables false
set_option linter.unusedSimpArgs false

/-- The cells of two things with a sign between. -/
abbrev binC (op : ByteArray) (A : Option Addr) (la : Nat) (B : Option Addr) (lb b o c : Nat) : Array Value := #[.string op, .string ⟨#[]⟩, .int .i64 0, .bool false, .int .i64 0, .string ⟨#[]⟩, .slice A 0 la, .slice B 0 lb, .slice (some ⟨b, o, none⟩) 2 c]
theorem two_blocks (w : World) (o1 : Obj) (z : Array Value) (t : TypeId) : Blk ((w.alloc o1).alloc (.cells z t)) (w.heap.size + 1) z t ∧ Ext w ((w.alloc o1).alloc (.cells z t)) := by
  have h := Blk.new (w.alloc o1) z t
  rw [World.size_alloc] at h
  exact ⟨h, (ext_al w o1).trans' (ext_al _ _)⟩
set_option maxHeartbeats 2000000 in
theorem doneMod {w : World} {g o : Nat} {a b : Int} {A : Option Addr} {la : Nat} {B : Option Addr} {lb : Nat} {C : Option Addr} {lc : Nat} {D : Option Addr} {ld : Nat} (h : Two w g o a b A la B lb C lc D ld) (c : Nat) (hb : 0 < b) (XA : Option Addr) (xla : Nat) (XB : Option Addr) (xlb xb xo xc : Nat) :
    Calls Tryz.prog 147 #[.agg (binC ⟨#[37]⟩ XA xla XB xlb xb xo xc), .slice (some ⟨g, o, none⟩) 2 c] w fun e w' => e = .returned (.agg (ansN (a.tmod b) none 0 none 0)) ∧ Ext w w' := by
  refine of_post fun R hR => ?_
  have H2 := Lib.hid (two_blocks w (.cells (binC ⟨#[37]⟩ XA xla XB xlb xb xo xc) 118) zero7a 189)
  have HRK := Lib.hid (reckonMod (h.on H2.out.2) c hb)
  clear h
  go_enter Tryz.func147, Tryz.ntmps147
  go_wp2_with (first
    | (go_at_call 197; refine HRK.out.mono ?_; rintro e w4 ⟨rfl, hx⟩; have HX4 := Lib.hid (H2.out.2.trans' hx); have HB4 := Lib.hid (H2.out.1.on hx); clear hx)
    | (refine wpList_store_blk rfl 189 _ _ rfl rfl (w.heap.size + 1) zero7a (ansN (a.tmod b) none 0 none 0) 189 HB4.out rfl rfl info7a rfl (by simp [Value.oneCell']) ?_; intro w9 HB9 HK9))
  exact bodyPost_ret (results_cell Tryz.results147 HB9.out rfl _ Tryz.underlying189 rfl info7a) rfl (hR.out _ _ ⟨rfl, keep_result HX4.out HK9.out (by omega)⟩)
theorem sto_hideA {x y : Value} : Instr.storeAt 189 x y = storeHid 189 x y := rfl
attribute [local go_sem ↓ 2000] sto_hideA
set_option maxHeartbeats 4000000 in
theorem doneEq {w : World} {g o : Nat} {a b : Int} {A : Option Addr} {la : Nat} {B : Option Addr} {lb : Nat} {C : Option Addr} {lc : Nat} {D : Option Addr} {ld : Nat} (h : Two w g o a b A la B lb C lc D ld) (hgw : g < w.heap.size) (c : Nat) (XA : Option Addr) (xla : Nat) (XB : Option Addr) (xlb xb xo xc : Nat) :
    Calls Tryz.prog 147 #[.agg (binC ⟨#[61, 61]⟩ XA xla XB xlb xb xo xc), .slice (some ⟨g, o, none⟩) 2 c] w fun e w' => e = .returned (.agg (ansT (decide (a = b)))) ∧ Ext w w' := by
  refine of_post fun R hR => ?_
  have H2 := Lib.hid (two_blocks w (.cells (binC ⟨#[61, 61]⟩ XA xla XB xlb xb xo xc) 118) zero7a 189)
  have HEB := Lib.hid ((Blk.new w (binC ⟨#[61, 61]⟩ XA xla XB xlb xb xo xc) 118).on (ext_al _ (.cells zero7a 189)))
  have HT := Lib.hid (h.on H2.out.2)
  have HSM := fun w => Lib.hid (sameI a b A la B lb C lc D ld w)
  have HTR := fun t w => Lib.hid (truthE t w)
  clear h
  go_enter Tryz.func147, Tryz.ntmps147
  go_upto_region 17 with fail
  generalize (w.alloc (.cells (binC ⟨#[61, 61]⟩ XA xla XB xlb xb xo xc) 118)).alloc (.cells zero7a 189) = w2 at *
  have HS4 : Hid (∀ X, Keeps (fun k => k = w.heap.size + 1) w2 X → X.cell? ⟨g, o, none⟩ = some (.int .i64 2) ∧ X.cell? ⟨g, o + 1, none⟩ = some (.bool false) ∧ X.cell? ⟨g, o + 2, none⟩ = some (.int .i64 a) ∧ X.cell? ⟨g, o + 3, none⟩ = some (.string ⟨#[]⟩) ∧ X.cell? ⟨g, o + 4, none⟩ = some (.slice A 0 la) ∧ X.cell? ⟨g, o + 5, none⟩ = some (.slice B 0 lb) ∧
      X.cell? ⟨g, o + 6, none⟩ = some (.int .i64 2) ∧ X.cell? ⟨g, o + 6 + 1, none⟩ = some (.bool false) ∧ X.cell? ⟨g, o + 6 + 2, none⟩ = some (.int .i64 b) ∧ X.cell? ⟨g, o + 6 + 3, none⟩ = some (.string ⟨#[]⟩) ∧ X.cell? ⟨g, o + 6 + 4, none⟩ = some (.slice C 0 lc) ∧ X.cell? ⟨g, o + 6 + 5, none⟩ = some (.slice D 0 ld) ∧ X.cell? ⟨w.heap.size, 0, none⟩ = some (.string ⟨#[61, 61]⟩)) := Lib.hid fun X hk => by
    have hg : ¬ g = w.heap.size + 1 := by omega
    have k1 := fun j v hv => hk.cell (p := ⟨g, o + j, none⟩) hg (HT.out.fst j v hv)
    have k2 := fun j v hv => hk.cell (p := ⟨g, o + 6 + j, none⟩) hg (HT.out.snd j v hv)
    have k3 := (HEB.out.keeps hk (by omega)).cell
    exact ⟨k1 0 _ rfl, k1 1 _ rfl, k1 2 _ rfl, k1 3 _ rfl, k1 4 _ rfl, k1 5 _ rfl, k2 0 _ rfl, k2 1 _ rfl, k2 2 _ rfl, k2 3 _ rfl, k2 4 _ rfl, k2 5 _ rfl, k3 0⟩
  have hcd := HS4.out w2.drew (Keeps.of_ext ((Ext.refl' w2).drewN' 1))
  go_region_held3 (fun X => X.cell? ⟨g, o, none⟩ = some (.int .i64 2) ∧ X.cell? ⟨g, o + 1, none⟩ = some (.bool false) ∧ X.cell? ⟨g, o + 2, none⟩ = some (.int .i64 a) ∧ X.cell? ⟨g, o + 3, none⟩ = some (.string ⟨#[]⟩) ∧ X.cell? ⟨g, o + 4, none⟩ = some (.slice A 0 la) ∧ X.cell? ⟨g, o + 5, none⟩ = some (.slice B 0 lb) ∧
      X.cell? ⟨g, o + 6, none⟩ = some (.int .i64 2) ∧ X.cell? ⟨g, o + 6 + 1, none⟩ = some (.bool false) ∧ X.cell? ⟨g, o + 6 + 2, none⟩ = some (.int .i64 b) ∧ X.cell? ⟨g, o + 6 + 3, none⟩ = some (.string ⟨#[]⟩) ∧ X.cell? ⟨g, o + 6 + 4, none⟩ = some (.slice C 0 lc) ∧ X.cell? ⟨g, o + 6 + 5, none⟩ = some (.slice D 0 ld) ∧ X.cell? ⟨w.heap.size, 0, none⟩ = some (.string ⟨#[61, 61]⟩)) (first | exact hcd | exact hce | exact hcf | exact hcg | go_keep) ((first
    | (go_at_call 88; refine (HSM _).out.mono ?_; rintro e w3 ⟨rfl, hx⟩; have HX3 := Lib.hid (((Ext.refl' w2).drewN' 1).trans' hx); have hce := HS4.out w3 (Keeps.of_ext HX3.out); clear hx)
    | (go_at_call 195; refine (HTR _ _).out.mono ?_; rintro e w4 ⟨rfl, hx⟩; have HX4 := Lib.hid (HX3.out.trans' hx); have hcf := HS4.out w4 (Keeps.of_ext HX4.out); have HB4 := Lib.hid (H2.out.1.on HX4.out); clear hx)
    | (refine upon_storeG _ 0 zero7a (ansT _) HB4 rfl info7a (by simp) rfl (by simp [Value.oneCell']) ?_; intro w6 HB6 HK6; have hcg := HS4.out w6 ((Keeps.of_ext HX4.out).trans HK6.out))))
  all_goals
    go_wp2_with fail
    refine bodyPost_ret (results_cell Tryz.results147 HB6.out rfl _ Tryz.underlying189 rfl info7a) rfl (hR.out _ _ ⟨?_, keep_result (H2.out.2.trans' HX4.out) HK6.out (by omega)⟩)
    first
      | rfl
      | (show Ending.returned (.agg (ansT _)) = _; simp)
end Go.Proofs.YtnpaikdaogikcaaGreatDoor

/- eval: what a remainder, an equality of two numbers is worth. -/
namespace Go.Proofs.YtnpaikdaogikcaaGreatDoor
set_option maxRecDepth 100000
open Go.RowKit
set_option linter.unusedVariables false
set_option linter.unusedSimpArgs false

/-- An expression is worth a truth. -/
def TV (x : E) (env : Array Value) (t : Bool) : Prop := ∀ (p : Nat → Prop) (w : World) (cs : Array Value), AE1 x p w cs → Calls Tryz.prog 123 #[.agg cs, .agg env] w fun e w' => e = .returned (.agg (ansT t)) ∧ Ext w w'
/-- A number, whatever else its cells hold. -/
def RdN (p : Nat → Prop) (w : World) (n : Int) (cs : List Value) : Prop := ∃ A la B lb, cs = (vC n A la B lb).toList
theorem movesN : Moves RdN := ⟨fun _ _ _ _ _ _ _ r => r⟩
theorem info8e : (Tryz.prog.info? 92).map (·.size) = some 8 := by kernel_rfl
theorem info6z : (Tryz.prog.info? 32).map (fun i => (i.zero, i.size, i.bytes)) = some (some (.agg #[.int .i64 0, .bool false, .int .i64 0, .string ⟨#[]⟩, .slice none 0 0, .slice none 0 0]), 6, 88) := by kernel_rfl
theorem two_of {w : World} {a b : Int} {ics : List (List Value)} {A : Option Addr} (h : All2 (RdN Any w) [a, b] ics) (hc : CellsAt w A ics.flatten) : ∃ g o X lx Y ly Z lz U lu, A = some ⟨g, o, none⟩ ∧ Two w g o a b X lx Y ly Z lz U lu := by
  cases h with
  | cons h1 t =>
  cases t with
  | cons h2 t2 =>
  cases t2
  obtain ⟨X, lx, Y, ly, rfl⟩ := h1
  obtain ⟨Z, lz, U, lu, rfl⟩ := h2
  obtain ⟨g, o, rfl, hcell⟩ := hc (by simp)
  refine ⟨g, o, X, lx, Y, ly, Z, lz, U, lu, rfl, fun j v hv => hcell j v ?_, fun j v hv => ?_⟩
  · have hj : j < 6 := by have := (List.getElem?_eq_some_iff.1 hv).1; simpa using this
    rw [List.flatten_cons, List.getElem?_append_left (by simpa using hj)]; exact hv
  · rw [Nat.add_assoc]
    refine hcell (6 + j) v ?_
    rw [List.flatten_cons, List.getElem?_append_right (by simp), List.flatten_cons, List.flatten_nil, List.append_nil]
    have : 6 + j - (vC a X lx Y ly).toList.length = j := by simp
    rw [this]; exact hv
set_option maxHeartbeats 8000000 in
theorem gotMod (x y : E) (a b : Int) (k : Int) (t : Bool) (m : Int) (s : ByteArray) (EA : Option Addr) (ea ela : Nat) (EB : Option Addr) (eb' elb : Nat) (hx : GV x (envG k t m s EA ea ela EB eb' elb) a) (hy : GV y (envG k t m s EA ea ela EB eb' elb) b) (hb : 0 < b) : GV (bin [37] x y) (envG k t m s EA ea ela EB eb' elb) (a.tmod b) := by
  intro p w cs h
  refine of_post fun R hR => ?_
  obtain ⟨A, la, B, lb, bb, bo, bc, ics, rfl, hes, hcell⟩ := AE1.bin_cells (op := ⟨#[37]⟩) h
  have HES := Lib.hid hes
  have HCELL := Lib.hid hcell
  have HCK : Hid (∀ i (h : i < 2), GV ([x, y][i]) (envG k t m s EA ea ela EB eb' elb) ([a, b][i])) := Lib.hid (fun i h => by
    rcases (by omega : i = 0 ∨ i = 1) with rfl | rfl
    · exact hx
    · exact hy)
  have H3 := Lib.hid (three w (.cells (binC ⟨#[37]⟩ A la B lb bb bo bc) 118) (.cells (envG k t m s EA ea ela EB eb' elb) 92) zero7a 189)
  have hx3 := ext_al ((w.alloc (.cells (binC ⟨#[37]⟩ A la B lb bb bo bc) 118)).alloc (.cells (envG k t m s EA ea ela EB eb' elb) 92)) (.cells zero7a 189)
  have HXB := Lib.hid ((Blk.new w (binC ⟨#[37]⟩ A la B lb bb bo bc) 118).on ((ext_al _ (.cells (envG k t m s EA ea ela EB eb' elb) 92)).trans' hx3))
  have HVB := Lib.hid ((Blk.new (w.alloc (.cells (binC ⟨#[37]⟩ A la B lb bb bo bc) 118)) (envG k t m s EA ea ela EB eb' elb) 92).on hx3)
  rw [World.size_alloc] at HVB
  clear h hx hy hes hcell hx3
  go_enter Tryz.func123, Tryz.ntmps123
  go_upto_region 13 with fail
  generalize hw2 : ((w.alloc (.cells (binC ⟨#[37]⟩ A la B lb bb bo bc) 118)).alloc (.cells (envG k t m s EA ea ela EB eb' elb) 92)).alloc (.cells zero7a 189) = w2 at *
  clear hw2
  go_loopw [40, 7] (fun iv gv wz => ∃ (i : Nat) (rcs : List (List Value)), i ≤ 2 ∧ iv = .int .i64 i ∧ Hid (RowOf RdN 32 6 w2.heap.size wz gv (([a, b] : List Int).take i) rcs) ∧ Hid (Ext w2 wz)) (fun iv _ _ => 2 - (intOf iv).toNat)
  case atStart => exact ⟨0, [], Nat.zero_le _, rfl, Lib.hid (RowOf.nil _ _ _ _ _), Lib.hid (Ext.refl' _)⟩
  case round =>
    obtain ⟨i, rcs, hi, rfl, HO, HXL⟩ := hrel
    obtain ⟨GA, gc, rfl⟩ := HO.out.form
    have HLN : Hid ((([a, b] : List Int).take i).length = i) := Lib.hid (by rw [List.length_take]; simp; omega)
    have HVR := Lib.hid (HVB.out.on HXL.out)
    have HXR := Lib.hid (HXB.out.on HXL.out)
    have HRR := Lib.hid (H3.out.1.on HXL.out)
    by_cases hlt : i < 2
    · obtain ⟨ci, hri, hrg⟩ := RdEs_row HES.out HCELL.out (i := i) hlt
      have hxw := H3.out.2.trans' HXL.out
      have HRG : Hid (wr.rangeAt bb (bo + i * 9) ci) := Lib.hid fun j v hv => hxw.cell' (hrg j v hv)
      obtain ⟨yo, ym, yk, yb, yn, ys, yA, yla, yc, yB, ylb, yd, yC, ylc, ye, rfl⟩ := RdE.nine hri
      have hck := HCK.out i hlt
      have HTK : Hid ((([a, b] : List Int).take (i + 1)) = (([a, b] : List Int).take i) ++ [([a, b] : List Int)[i]]) := Lib.hid (by rw [List.take_add_one, List.getElem?_eq_getElem (by exact hlt), Option.toList_some])
      have hxv := ext_al wr (.cells (X9 yo ym yk yb yn ys yA yla yc yB ylb yd yC ylc ye) 118)
      have HC := Lib.hid (hck p (wr.alloc (.cells (X9 yo ym yk yb yn ys yA yla yc yB ylb yd yC ylc ye) 118)) (X9 yo ym yk yb yn ys yA yla yc yB ylb yd yC ylc ye) (RdE.on (hxw.trans' hxv) _ _ hri))
      have HVX := Lib.hid (HVR.out.on hxv)
      have HXV := Lib.hid hxv
      have HLE : Hid ((([a, b] : List Int).take i).length ≤ 1000000) := Lib.hid (by rw [HLN.out]; omega)
      generalize (([a, b] : List Int)[i]) = s1 at *
      generalize (([a, b] : List Int).take i) = us at *
      rw [HLN.out] at HO ⊢
      clear hri hrg hxw hck hxv HES HCELL
      go_wp2_with (first
        | (refine wpList_load_mid rfl 118 _ rfl _ _ rfl _ _ HRG.out Tryz.underlying118 rfl info9x ?_)
        | (refine wpList_load_blk rfl 92 _ rfl _ _ _ HVX.out rfl _ Tryz.underlying92 rfl info8e ?_)
        | (go_at_call 123; refine HC.out.mono ?_; rintro r w5 ⟨⟨NA, nla, NB, nlb, rfl⟩, hx⟩; have hxn := ext_al w5 (.cells (ansN s1 NA nla NB nlb) 189); have HX5 := Lib.hid (HXL.out.trans' ((HXV.out.trans' hx).trans' hxn)); have HO5 := Lib.hid (HO.out.on movesN ((HXV.out.trans' hx).trans' hxn)); have HY5 : Hid (RdN (fun b => w2.heap.size ≤ b ∧ (Value.slice GA i gc).ownBlock ≠ some b) (w5.alloc (.cells (ansN s1 NA nla NB nlb) 189)) s1 (vC s1 NA nla NB nlb).toList) := Lib.hid ⟨NA, nla, NB, nlb, rfl⟩; have HON : Hid (∀ u ∈ (vC s1 NA nla NB nlb).toList, u.oneCell' = true) := Lib.hid (by simp [Value.oneCell']); have hsz := HX5.out.size; clear hx hxn)
        | (at_builtin; go_must (refine wpList_grow movesN rfl _ _ 29 rfl (.agg #[.int .i64 0, .bool false, .int .i64 0, .string ⟨#[]⟩, .slice none 0 0, .slice none 0 0]) 88 Tryz.underlying29 info6z rfl (by decide) [_, _, _, _, _, _] rfl s1 rfl HO5 HY5 HON.out (by rw [World.size_alloc]; rfl) HLE.out (by decide) hsz ?_); intro v2 wE HRE HPU))
      go_roundw
      case rel =>
        have hrow := HRE.out
        rw [← HTK.out] at hrow
        exact ⟨i + 1, _, hlt, by go_num, Lib.hid hrow, Lib.hid (ext_grown_from HX5.out HPU.out.grown fun g hg => (HO5.out.own.lt g hg).1)⟩
      case measure => simp [intOf]; omega
    · obtain rfl : i = 2 := by omega
      have hO := HO.out.own
      obtain ⟨g, o, X1, lx1, Y1, ly1, Z1, lz1, U1, lu1, rfl, htw⟩ := two_of (a := a) (b := b) (HO.out.all.imp fun _ _ h => h) (cellsAt_of_own hO)
      have hglt : g < wr.heap.size := (hO.lt g rfl).2
      have hxl : Ext wr wr := Ext.refl' _
      have HDN := Lib.hid (fun c => doneMod (htw.on hxl) c hb A la B lb bb bo bc)
      have HXF := Lib.hid (H3.out.2.trans' HXL.out)
      clear HES HCELL HCK htw hglt hxl hO
      go_wp2_with (first
        | (refine wpList_load_blk rfl 118 _ rfl _ _ _ HXR.out rfl _ Tryz.underlying118 rfl info9x ?_)
        | (go_at_call 147; refine (HDN.out _).mono ?_; rintro r w5 ⟨rfl, hx⟩; have HX5 := Lib.hid (HXF.out.trans' hx); have HR5 := Lib.hid (HRR.out.on hx); clear hx)
        | (refine wpList_store_blk rfl 189 _ _ rfl rfl (w.heap.size + 2) zero7a (ansN (a.tmod b) none 0 none 0) 189 HR5.out rfl rfl info7a rfl (by simp [Value.oneCell']) ?_; intro w9 HB9 HK9))
      exact bodyPost_ret (results_cell Tryz.results123 HB9.out rfl _ Tryz.underlying189 rfl info7a) rfl (hR.out _ _ ⟨⟨none, 0, none, 0, rfl⟩, keep_result HX5.out HK9.out (by omega)⟩)
set_option maxHeartbeats 8000000 in
theorem gotEq (x y : E) (a b : Int) (k : Int) (t : Bool) (m : Int) (s : ByteArray) (EA : Option Addr) (ea ela : Nat) (EB : Option Addr) (eb' elb : Nat) (hx : GV x (envG k t m s EA ea ela EB eb' elb) a) (hy : GV y (envG k t m s EA ea ela EB eb' elb) b) : TV (bin [61, 61] x y) (envG k t m s EA ea ela EB eb' elb) (decide (a = b)) := by
  intro p w cs h
  refine of_post fun R hR => ?_
  obtain ⟨A, la, B, lb, bb, bo, bc, ics, rfl, hes, hcell⟩ := AE1.bin_cells (op := ⟨#[61, 61]⟩) h
  have HES := Lib.hid hes
  have HCELL := Lib.hid hcell
  have HCK : Hid (∀ i (h : i < 2), GV ([x, y][i]) (envG k t m s EA ea ela EB eb' elb) ([a, b][i])) := Lib.hid (fun i h => by
    rcases (by omega : i = 0 ∨ i = 1) with rfl | rfl
    · exact hx
    · exact hy)
  have H3 := Lib.hid (three w (.cells (binC ⟨#[61, 61]⟩ A la B lb bb bo bc) 118) (.cells (envG k t m s EA ea ela EB eb' elb) 92) zero7a 189)
  have hx3 := ext_al ((w.alloc (.cells (binC ⟨#[61, 61]⟩ A la B lb bb bo bc) 118)).alloc (.cells (envG k t m s EA ea ela EB eb' elb) 92)) (.cells zero7a 189)
  have HXB := Lib.hid ((Blk.new w (binC ⟨#[61, 61]⟩ A la B lb bb bo bc) 118).on ((ext_al _ (.cells (envG k t m s EA ea ela EB eb' elb) 92)).trans' hx3))
  have HVB := Lib.hid ((Blk.new (w.alloc (.cells (binC ⟨#[61, 61]⟩ A la B lb bb bo bc) 118)) (envG k t m s EA ea ela EB eb' elb) 92).on hx3)
  rw [World.size_alloc] at HVB
  clear h hx hy hes hcell hx3
  go_enter Tryz.func123, Tryz.ntmps123
  go_upto_region 13 with fail
  generalize hw2 : ((w.alloc (.cells (binC ⟨#[61, 61]⟩ A la B lb bb bo bc) 118)).alloc (.cells (envG k t m s EA ea ela EB eb' elb) 92)).alloc (.cells zero7a 189) = w2 at *
  clear hw2
  go_loopw [40, 7] (fun iv gv wz => ∃ (i : Nat) (rcs : List (List Value)), i ≤ 2 ∧ iv = .int .i64 i ∧ Hid (RowOf RdN 32 6 w2.heap.size wz gv (([a, b] : List Int).take i) rcs) ∧ Hid (Ext w2 wz)) (fun iv _ _ => 2 - (intOf iv).toNat)
  case atStart => exact ⟨0, [], Nat.zero_le _, rfl, Lib.hid (RowOf.nil _ _ _ _ _), Lib.hid (Ext.refl' _)⟩
  case round =>
    obtain ⟨i, rcs, hi, rfl, HO, HXL⟩ := hrel
    obtain ⟨GA, gc, rfl⟩ := HO.out.form
    have HLN : Hid ((([a, b] : List Int).take i).length = i) := Lib.hid (by rw [List.length_take]; simp; omega)
    have HVR := Lib.hid (HVB.out.on HXL.out)
    have HXR := Lib.hid (HXB.out.on HXL.out)
    have HRR := Lib.hid (H3.out.1.on HXL.out)
    by_cases hlt : i < 2
    · obtain ⟨ci, hri, hrg⟩ := RdEs_row HES.out HCELL.out (i := i) hlt
      have hxw := H3.out.2.trans' HXL.out
      have HRG : Hid (wr.rangeAt bb (bo + i * 9) ci) := Lib.hid fun j v hv => hxw.cell' (hrg j v hv)
      obtain ⟨yo, ym, yk, yb, yn, ys, yA, yla, yc, yB, ylb, yd, yC, ylc, ye, rfl⟩ := RdE.nine hri
      have hck := HCK.out i hlt
      have HTK : Hid ((([a, b] : List Int).take (i + 1)) = (([a, b] : List Int).take i) ++ [([a, b] : List Int)[i]]) := Lib.hid (by rw [List.take_add_one, List.getElem?_eq_getElem (by exact hlt), Option.toList_some])
      have hxv := ext_al wr (.cells (X9 yo ym yk yb yn ys yA yla yc yB ylb yd yC ylc ye) 118)
      have HC := Lib.hid (hck p (wr.alloc (.cells (X9 yo ym yk yb yn ys yA yla yc yB ylb yd yC ylc ye) 118)) (X9 yo ym yk yb yn ys yA yla yc yB ylb yd yC ylc ye) (RdE.on (hxw.trans' hxv) _ _ hri))
      have HVX := Lib.hid (HVR.out.on hxv)
      have HXV := Lib.hid hxv
      have HLE : Hid ((([a, b] : List Int).take i).length ≤ 1000000) := Lib.hid (by rw [HLN.out]; omega)
      generalize (([a, b] : List Int)[i]) = s1 at *
      generalize (([a, b] : List Int).take i) = us at *
      rw [HLN.out] at HO ⊢
      clear hri hrg hxw hck hxv HES HCELL
      go_wp2_with (first
        | (refine wpList_load_mid rfl 118 _ rfl _ _ rfl _ _ HRG.out Tryz.underlying118 rfl info9x ?_)
        | (refine wpList_load_blk rfl 92 _ rfl _ _ _ HVX.out rfl _ Tryz.underlying92 rfl info8e ?_)
        | (go_at_call 123; refine HC.out.mono ?_; rintro r w5 ⟨⟨NA, nla, NB, nlb, rfl⟩, hx⟩; have hxn := ext_al w5 (.cells (ansN s1 NA nla NB nlb) 189); have HX5 := Lib.hid (HXL.out.trans' ((HXV.out.trans' hx).trans' hxn)); have HO5 := Lib.hid (HO.out.on movesN ((HXV.out.trans' hx).trans' hxn)); have HY5 : Hid (RdN (fun b => w2.heap.size ≤ b ∧ (Value.slice GA i gc).ownBlock ≠ some b) (w5.alloc (.cells (ansN s1 NA nla NB nlb) 189)) s1 (vC s1 NA nla NB nlb).toList) := Lib.hid ⟨NA, nla, NB, nlb, rfl⟩; have HON : Hid (∀ u ∈ (vC s1 NA nla NB nlb).toList, u.oneCell' = true) := Lib.hid (by simp [Value.oneCell']); have hsz := HX5.out.size; clear hx hxn)
        | (at_builtin; go_must (refine wpList_grow movesN rfl _ _ 29 rfl (.agg #[.int .i64 0, .bool false, .int .i64 0, .string ⟨#[]⟩, .slice none 0 0, .slice none 0 0]) 88 Tryz.underlying29 info6z rfl (by decide) [_, _, _, _, _, _] rfl s1 rfl HO5 HY5 HON.out (by rw [World.size_alloc]; rfl) HLE.out (by decide) hsz ?_); intro v2 wE HRE HPU))
      go_roundw
      case rel =>
        have hrow := HRE.out
        rw [← HTK.out] at hrow
        exact ⟨i + 1, _, hlt, by go_num, Lib.hid hrow, Lib.hid (ext_grown_from HX5.out HPU.out.grown fun g hg => (HO5.out.own.lt g hg).1)⟩
      case measure => simp [intOf]; omega
    · obtain rfl : i = 2 := by omega
      have hO := HO.out.own
      obtain ⟨g, o, X1, lx1, Y1, ly1, Z1, lz1, U1, lu1, rfl, htw⟩ := two_of (a := a) (b := b) (HO.out.all.imp fun _ _ h => h) (cellsAt_of_own hO)
      have hglt : g < wr.heap.size := (hO.lt g rfl).2
      have hxl : Ext wr wr := Ext.refl' _
      have HDN := Lib.hid (fun c => doneEq (htw.on hxl) hglt c A la B lb bb bo bc)
      have HXF := Lib.hid (H3.out.2.trans' HXL.out)
      clear HES HCELL HCK htw hglt hxl hO
      go_wp2_with (first
        | (refine wpList_load_blk rfl 118 _ rfl _ _ _ HXR.out rfl _ Tryz.underlying118 rfl info9x ?_)
        | (go_at_call 147; refine (HDN.out _).mono ?_; rintro r w5 ⟨rfl, hx⟩; have HX5 := Lib.hid (HXF.out.trans' hx); have HR5 := Lib.hid (HRR.out.on hx); clear hx)
        | (refine wpList_store_blk rfl 189 _ _ rfl rfl (w.heap.size + 2) zero7a (ansT (decide (a = b))) 189 HR5.out rfl rfl info7a rfl (by simp [Value.oneCell']) ?_; intro w9 HB9 HK9))
      exact bodyPost_ret (results_cell Tryz.results123 HB9.out rfl _ Tryz.underlying189 rfl info7a) rfl (hR.out _ _ ⟨rfl, keep_result HX5.out HK9.out (by omega)⟩)
end Go.Proofs.YtnpaikdaogikcaaGreatDoor

/- A number's copy. -/
namespace Go.Proofs.YtnpaikdaogikcaaGreatDoor
set_option maxRecDepth 100000
open Go.RowKit
set_option linter.unusedVariables false
set_option linter.unusedSimpArgs false

theorem info6P : (Tryz.prog.info? 32).map (fun i => (i.zero, i.size, i.bytes)) = some (some (.agg zero6a), 6, 88) := by kernel_rfl
set_option maxHeartbeats 1000000 in
theorem cloneV0 (A : Option Addr) (c : Nat) (w : World) :
    Calls Tryz.prog 48 #[.slice A 0 c] w fun e w' => (∃ A' c', e = .returned (.slice A' 0 c')) ∧ Ext w w' := by
  refine of_post fun R hR => ?_
  obtain ⟨i0, hi, hz0, hz1, hz2⟩ := info_parts info6P
  have heq := fun (W : World) (a : Option Addr) (n c : Nat) => Lib.run_eql_slice_nil (P := Tryz.prog) W 29 32 a n c 0 0 Tryz.underlying29
  cases A with
  | none =>
    go_enter Tryz.func48, Tryz.ntmps48
    go_wp2_with fail
    exact hR.out _ _ ⟨⟨none, 0, rfl⟩, Ext.refl' _⟩
  | some a =>
    have HO := Lib.hid (own_empty w 32 6)
    go_enter Tryz.func48, Tryz.ntmps48
    go_wp2_with (at_builtin; go_must (refine wpList_append_src _ rfl _ _ 29 rfl w.heap.size 32 i0 (.agg zero6a) 6 88 Tryz.underlying29 hi hz0 hz1 hz2 rfl (by decide) (.slice (some ⟨w.heap.size, 0, none⟩) 0 0) 0 [] rfl HO.out (some a) 0 c [] rfl rfl (CellsAt.nil _ _) (by simp) (by decide) (by decide) (by simp) ?_); intro u' w2 hO1 hG1 hB1; rw [Nat.zero_add, List.nil_append] at hO1; obtain ⟨A2, c2, rfl⟩ := own_form hO1; have HX := Lib.hid (ext_grown_from ((Ext.refl' w).alloc' _) hG1 (by intro k hk; simp [Value.ownBlock] at hk; omega)); clear hO1 hG1 hB1)
    exact hR.out _ _ ⟨⟨A2, c2, rfl⟩, HX.out⟩
set_option maxHeartbeats 1000000 in
theorem cloneS0 (A : Option Addr) (c : Nat) (w : World) :
    Calls Tryz.prog 34 #[.slice A 0 c] w fun e w' => (∃ A' c', e = .returned (.slice A' 0 c')) ∧ Ext w w' := by
  refine of_post fun R hR => ?_
  obtain ⟨i0, hi, hz0, hz1, hz2⟩ := info_parts infoStr
  have heq := fun (W : World) (a : Option Addr) (n c : Nat) => Lib.run_eql_slice_nil (P := Tryz.prog) W 30 9 a n c 0 0 Tryz.underlying30
  cases A with
  | none =>
    go_enter Tryz.func34, Tryz.ntmps34
    go_wp2_with fail
    exact hR.out _ _ ⟨⟨none, 0, rfl⟩, Ext.refl' _⟩
  | some a =>
    have HO := Lib.hid (own_empty w 9 1)
    go_enter Tryz.func34, Tryz.ntmps34
    go_wp2_with (at_builtin; go_must (refine wpList_append_src _ rfl _ _ 30 rfl w.heap.size 9 i0 (.string ⟨#[]⟩) 1 16 Tryz.underlying30 hi hz0 hz1 hz2 rfl (by decide) (.slice (some ⟨w.heap.size, 0, none⟩) 0 0) 0 [] rfl HO.out (some a) 0 c [] rfl rfl (CellsAt.nil _ _) (by simp) (by decide) (by decide) (by simp) ?_); intro u' w2 hO1 hG1 hB1; rw [Nat.zero_add, List.nil_append] at hO1; obtain ⟨A2, c2, rfl⟩ := own_form hO1; have HX := Lib.hid (ext_grown_from ((Ext.refl' w).alloc' _) hG1 (by intro k hk; simp [Value.ownBlock] at hk; omega)); clear hO1 hG1 hB1)
    exact hR.out _ _ ⟨⟨A2, c2, rfl⟩, HX.out⟩
theorem infoSV : (Tryz.prog.info? 29).map (·.size) = some 1 := by kernel_rfl
theorem infoSS : (Tryz.prog.info? 30).map (·.size) = some 1 := by kernel_rfl
theorem sto_hideV {x y : Value} : Instr.storeAt 29 x y = storeHid 29 x y := rfl
theorem sto_hideS {x y : Value} : Instr.storeAt 30 x y = storeHid 30 x y := rfl
attribute [local go_sem ↓ 2000] sto_hideV sto_hideS
set_option maxHeartbeats 4000000 in
theorem copyG (kk : Int) (tt : Bool) (n : Int) (Y1 Y2 : Option Addr) (d1 d2 : Nat) (w : World) :
    Calls Tryz.prog 24 #[.agg #[.int .i64 kk, .bool tt, .int .i64 n, .string ⟨#[]⟩, .slice Y1 0 d1, .slice Y2 0 d2]] w fun e w' => (∃ Z1 e1 Z2 e2, e = .returned (.agg #[.int .i64 kk, .bool tt, .int .i64 n, .string ⟨#[]⟩, .slice Z1 0 e1, .slice Z2 0 e2])) ∧ Ext w w' := by
  refine of_post fun R hR => ?_
  have hb1 := Blk.new w #[.int .i64 kk, .bool tt, .int .i64 n, .string ⟨#[]⟩, .slice Y1 0 d1, .slice Y2 0 d2] 32
  have hx1 := ext_al w (.cells #[.int .i64 kk, .bool tt, .int .i64 n, .string ⟨#[]⟩, .slice Y1 0 d1, .slice Y2 0 d2] 32)
  have hs1 : (w.alloc (.cells #[.int .i64 kk, .bool tt, .int .i64 n, .string ⟨#[]⟩, .slice Y1 0 d1, .slice Y2 0 d2] 32)).heap.size = w.heap.size + 1 := World.size_alloc _ _
  generalize hw1 : w.alloc (.cells #[.int .i64 kk, .bool tt, .int .i64 n, .string ⟨#[]⟩, .slice Y1 0 d1, .slice Y2 0 d2] 32) = w1 at *
  have hb2 := Blk.new w1 zero6a 32
  have hx2 := ext_al w1 (.cells zero6a 32)
  have hs2 : (w1.alloc (.cells zero6a 32)).heap.size = w1.heap.size + 1 := World.size_alloc _ _
  rw [hs1] at hb2
  generalize hw2 : w1.alloc (.cells zero6a 32) = w2 at *
  have hb3 := Blk.new w2 #[.int .i64 kk, .bool tt, .int .i64 n, .string ⟨#[]⟩, .slice Y1 0 d1, .slice Y2 0 d2] 32
  have hx3 := ext_al w2 (.cells #[.int .i64 kk, .bool tt, .int .i64 n, .string ⟨#[]⟩, .slice Y1 0 d1, .slice Y2 0 d2] 32)
  rw [hs2, hs1] at hb3
  generalize hw3 : w2.alloc (.cells #[.int .i64 kk, .bool tt, .int .i64 n, .string ⟨#[]⟩, .slice Y1 0 d1, .slice Y2 0 d2] 32) = w3 at *
  have HW1 := Lib.hid hw1
  have HW2 := Lib.hid hw2
  have HW3 := Lib.hid hw3
  have HX := Lib.hid ((hx1.trans' hx2).trans' hx3)
  have HB1 := Lib.hid ((hb1.on hx2).on hx3)
  have HB2 := Lib.hid (hb2.on hx3)
  have HB3 := Lib.hid hb3
  clear hb1 hx1 hs1 hw1 hb2 hx2 hs2 hw2 hb3 hx3 hw3
  have HCV := Lib.hid cloneV0
  have HCS := Lib.hid cloneS0
  go_enter Tryz.func24, Tryz.ntmps24
  go_upto_region 2 with fail
  rw [HW1.out, HW2.out, HW3.out]
  have HK0 : Hid (∀ X, Keeps (fun b => b = w.heap.size + 1 + 1) w3 X → X.cell? ⟨w.heap.size, 4, none⟩ = some (.slice Y1 0 d1) ∧ X.cell? ⟨w.heap.size, 5, none⟩ = some (.slice Y2 0 d2)) := Lib.hid fun X hk => ⟨(HB1.out.keeps hk (by omega)).cell 4, (HB1.out.keeps hk (by omega)).cell 5⟩
  have hcd := HK0.out w3.drew (Keeps.of_ext ((Ext.refl' w3).drewN' 1))
  go_region_held3 (fun X => X.cell? ⟨w.heap.size, 4, none⟩ = some (.slice Y1 0 d1) ∧ X.cell? ⟨w.heap.size, 5, none⟩ = some (.slice Y2 0 d2)) (first | exact hcd | exact hce | exact hcf | exact hcg | exact hch | go_keep) ((first
    | (go_at_call 34; refine (HCS.out _ _ _).mono ?_; rintro e w4 ⟨⟨Z2, e2, rfl⟩, hx⟩; have HX4 := Lib.hid (((Ext.refl' w3).drewN' 1).trans' hx); have hce := HK0.out w4 (Keeps.of_ext HX4.out); clear hx)
    | (go_at_call 48; refine (HCV.out _ _ _).mono ?_; rintro e w5 ⟨⟨Z1, e1, rfl⟩, hx⟩; have HX5 := Lib.hid (HX4.out.trans' hx); have HB35 := Lib.hid (HB3.out.on HX5.out); have hcf := HK0.out w5 (Keeps.of_ext HX5.out); clear hx)
    | (refine upon_storeG _ 5 _ #[.slice Z2 0 e2] HB35 rfl infoSS (by simp) rfl (by simp [Value.oneCell']) ?_; intro w6 HB36 HK6; have hcg := HK0.out w6 ((Keeps.of_ext HX5.out).trans HK6.out))
    | (refine upon_storeG _ 4 _ #[.slice Z1 0 e1] HB36 rfl infoSV (by simp) rfl (by simp [Value.oneCell']) ?_; intro w7 HB37 HK7; have hch := HK0.out w7 (((Keeps.of_ext HX5.out).trans HK6.out).trans HK7.out))))
  all_goals
    have HB7 : Hid (Blk w7 (w.heap.size + 1 + 1) #[.int .i64 kk, .bool tt, .int .i64 n, .string ⟨#[]⟩, .slice Z1 0 e1, .slice Z2 0 e2] 32) := Lib.hid HB37.out
    have HB27 : Hid (Blk w7 (w.heap.size + 1) zero6a 32) := Lib.hid (((HB2.out.on HX5.out).keeps HK6.out (by omega)).keeps HK7.out (by omega))
    have HX7 : Hid (Keeps (fun b => b = w.heap.size + 1 + 1) w w7) := Lib.hid (((Keeps.of_ext (HX.out.trans' HX5.out)).trans HK6.out).trans HK7.out)
    have hc7 := HB7.out.cell
    go_wp2_with fail
    go_loopw [17] (fun iv wr => iv = .int .i64 0 ∧ wr = w7) (fun _ _ => 0)
    case atStart => exact ⟨rfl, rfl⟩
    case round =>
      obtain ⟨rfl, rfl⟩ := hrel
      go_wp2_with (first
        | (refine wpList_load_mid rfl 32 _ rfl (w.heap.size + 1 + 1) 0 rfl ([.int .i64 kk, .bool tt, .int .i64 n, .string ⟨#[]⟩, .slice Z1 0 e1, .slice Z2 0 e2] : List Value) _ (HB7.out.range _ 0 (fun j v hj => by rw [Nat.add_comm]; have := (List.getElem?_eq_some_iff.1 hj).1; simpa using hj)) Tryz.underlying32 rfl info6p ?_)
        | (refine wpList_store_blk rfl 32 _ _ rfl rfl (w.heap.size + 1) zero6a _ 32 HB27.out rfl rfl info6p rfl (by simp [Value.oneCell']) ?_; intro w9 HB9 HK9))
      refine bodyPost_ret (results_cell Tryz.results24 HB9.out rfl _ Tryz.underlying32 rfl info6p) rfl (hR.out _ _ ⟨⟨Z1, e1, Z2, e2, rfl⟩, ?_⟩)
      exact ((HX7.out.mono (S' := fun b => w.heap.size ≤ b) fun x hx e => by have h1 : x = w.heap.size + 1 + 1 := e; omega).trans (HK9.out.mono fun x hx e => by have h1 : x = w.heap.size + 1 := e; show w.heap.size ≤ x; omega)).ext fun k hk e => by have h1 : w.heap.size ≤ k := e; omega
theorem copyN (n : Int) (Y1 Y2 : Option Addr) (d1 d2 : Nat) (w : World) :
    Calls Tryz.prog 24 #[.agg #[.int .i64 2, .bool false, .int .i64 n, .string ⟨#[]⟩, .slice Y1 0 d1, .slice Y2 0 d2]] w fun e w' => (∃ Z1 e1 Z2 e2, e = .returned (.agg #[.int .i64 2, .bool false, .int .i64 n, .string ⟨#[]⟩, .slice Z1 0 e1, .slice Z2 0 e2])) ∧ Ext w w' := copyG 2 false n Y1 Y2 d1 d2 w
end Go.Proofs.YtnpaikdaogikcaaGreatDoor
