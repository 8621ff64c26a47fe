/- eval: what is worth a number, a truth. -/
import Derived.Test.YtnpaikdaogikcaaGreatDoorG18
import Derived.Test.YtnpaikdaogikcaaGreatDoorG10

namespace Go.Proofs.YtnpaikdaogikcaaGreatDoor
set_option maxRecDepth 100000
open Go.RowKit
set_option linter.unusedVariables false
set_option linter.unusedSimpArgs false

abbrev zero6e : Array Value := #[.int .i64 0, .bool false, .int .i64 0, .string ⟨#[]⟩, .slice none 0 0, .slice none 0 0]
set_option maxHeartbeats 2000000 in
/-- Eval, of an answer whose cells are so. -/
theorem evalG (x : E) (env : Array Value) (he : env.size = 8) (kk : Int) (tt : Bool) (n : Int)
    (hg : ∀ (p : Nat → Prop) (w : World) (cs : Array Value), AE1 x p w cs → Calls Tryz.prog 123 #[.agg cs, .agg env] w fun e w' => (∃ A la B lb, e = .returned (.agg #[.int .i64 kk, .bool tt, .int .i64 n, .string ⟨#[]⟩, .slice A 0 la, .slice B 0 lb, .int .i64 0])) ∧ Ext w w')
    (p : Nat → Prop) (w : World) (cs : Array Value) (h : AE1 x p w cs) :
    Calls Tryz.prog 87 #[.agg cs, .agg env] w fun e w' => (∃ A la B lb, e = .returned (.tuple #[.agg #[.int .i64 kk, .bool tt, .int .i64 n, .string ⟨#[]⟩, .slice A 0 la, .slice B 0 lb], .int .i64 0])) ∧ Ext w w' := by
  refine of_post fun R hR => ?_
  obtain ⟨xo, xm, xk, xb, xn, xs, xA, xla, xc, xB, xlb, xd, xC, xlc, xe, rfl⟩ := AE1.nine h
  have H3 := Lib.hid (three w (.cells (X9 xo xm xk xb xn xs xA xla xc xB xlb xd xC xlc xe) 118) (.cells env 92) zero6e 32)
  have hx3 := ext_al ((w.alloc (.cells (X9 xo xm xk xb xn xs xA xla xc xB xlb xd xC xlc xe) 118)).alloc (.cells env 92)) (.cells zero6e 32)
  have HXB := Lib.hid ((Blk.new w (X9 xo xm xk xb xn xs xA xla xc xB xlb xd xC xlc xe) 118).on ((ext_al _ (.cells env 92)).trans' hx3))
  have HVB := Lib.hid ((Blk.new (w.alloc (.cells (X9 xo xm xk xb xn xs xA xla xc xB xlb xd xC xlc xe) 118)) env 92).on hx3)
  rw [World.size_alloc] at HVB
  have HG := Lib.hid (hg p _ _ (RdE.on H3.out.2 _ _ h))
  have HES : Hid (env.size = 8) := Lib.hid he
  have HCP := fun A la B lb w => Lib.hid (copyG kk tt n A B la lb w)
  clear h hx3 hg he
  go_enter Tryz.func87, Tryz.ntmps87
  go_wp2_with (first
    | (refine wpList_load_blk rfl 118 _ rfl _ _ _ HXB.out rfl _ Tryz.underlying118 rfl info9x ?_)
    | (refine wpList_load_blk rfl 92 _ rfl _ _ _ HVB.out rfl _ Tryz.underlying92 rfl (by rw [HES.out]; exact info8e) ?_)
    | (go_at_call 123; refine HG.out.mono ?_; rintro r w5 ⟨⟨NA, nla, NB, nlb, rfl⟩, hx⟩; have hxn := ext_al w5 (.cells #[.int .i64 kk, .bool tt, .int .i64 n, .string ⟨#[]⟩, .slice NA 0 nla, .slice NB 0 nlb, .int .i64 0] 189); have HX5 := Lib.hid (H3.out.2.trans' (hx.trans' hxn)); have HR5 := Lib.hid (H3.out.1.on (hx.trans' hxn)); clear hx hxn)
    | (go_at_call 24; refine (HCP _ _ _ _ _).out.mono ?_; rintro r w6 ⟨⟨ZA, zla, ZB, zlb, rfl⟩, hx⟩; have HX6 := Lib.hid (HX5.out.trans' hx); have HR6 := Lib.hid (HR5.out.on hx); clear hx)
    | (refine wpList_store_blk rfl 32 _ _ rfl rfl (w.heap.size + 2) zero6e #[.int .i64 kk, .bool tt, .int .i64 n, .string ⟨#[]⟩, .slice ZA 0 zla, .slice ZB 0 zlb] 32 HR6.out rfl rfl info6p rfl (by simp [Value.oneCell']) ?_; intro w9 HB9 HK9))
  exact bodyPost_ret (results_cell_1 Tryz.results87 HB9.out rfl _ Tryz.underlying32 rfl info6p) rfl (hR.out _ _ ⟨⟨ZA, zla, ZB, zlb, rfl⟩, keep_result HX6.out HK9.out (by omega)⟩)
set_option maxHeartbeats 2000000 in
/-- A whole number. -/
theorem wholeE (x : E) (env : Array Value) (he : env.size = 8) (n : Int) (hg : GV x env n) (p : Nat → Prop) (w : World) (cs : Array Value) (h : AE1 x p w cs) :
    Calls Tryz.prog 72 #[.agg cs, .agg env] w fun e w' => e = .returned (.tuple #[.int .i64 n, .int .i64 0]) ∧ Ext w w' := by
  refine of_post fun R hR => ?_
  obtain ⟨xo, xm, xk, xb, xn, xs, xA, xla, xc, xB, xlb, xd, xC, xlc, xe, rfl⟩ := AE1.nine h
  have H2 := Lib.hid (two_blocks w (.cells (X9 xo xm xk xb xn xs xA xla xc xB xlb xd xC xlc xe) 118) env 92)
  have HXB := Lib.hid ((Blk.new w (X9 xo xm xk xb xn xs xA xla xc xB xlb xd xC xlc xe) 118).on (ext_al _ (.cells env 92)))
  have HEV := Lib.hid (evalG x env he 2 false n hg p _ _ (RdE.on H2.out.2 _ _ h))
  have HES : Hid (env.size = 8) := Lib.hid he
  clear h hg he
  go_enter Tryz.func72, Tryz.ntmps72
  go_wp2_with (first
    | (refine wpList_load_blk rfl 118 _ rfl _ _ _ HXB.out rfl _ Tryz.underlying118 rfl info9x ?_)
    | (refine wpList_load_blk rfl 92 _ rfl _ _ _ H2.out.1 rfl _ Tryz.underlying92 rfl (by rw [HES.out]; exact info8e) ?_)
    | (go_at_call 87; refine HEV.out.mono ?_; rintro r w5 ⟨⟨NA, nla, NB, nlb, rfl⟩, hx⟩; have HX5 := Lib.hid (H2.out.2.trans' (hx.trans' (ext_al w5 (.cells #[.int .i64 2, .bool false, .int .i64 n, .string ⟨#[]⟩, .slice NA 0 nla, .slice NB 0 nlb] 32)))); clear hx))
  exact hR.out _ _ ⟨rfl, HX5.out⟩
set_option maxHeartbeats 2000000 in
theorem holdsE (x : E) (env : Array Value) (he : env.size = 8) (t : Bool) (hg : TV x env t) (p : Nat → Prop) (w : World) (cs : Array Value) (h : AE1 x p w cs) :
    Calls Tryz.prog 46 #[.agg cs, .agg env] w fun e w' => e = .returned (.tuple #[.bool t, .int .i64 0]) ∧ Ext w w' := by
  refine of_post fun R hR => ?_
  obtain ⟨xo, xm, xk, xb, xn, xs, xA, xla, xc, xB, xlb, xd, xC, xlc, xe, rfl⟩ := AE1.nine h
  have H2 := Lib.hid (two_blocks w (.cells (X9 xo xm xk xb xn xs xA xla xc xB xlb xd xC xlc xe) 118) env 92)
  have HXB := Lib.hid ((Blk.new w (X9 xo xm xk xb xn xs xA xla xc xB xlb xd xC xlc xe) 118).on (ext_al _ (.cells env 92)))
  have HEV := Lib.hid (evalG x env he 1 t 0 (fun p w cs h => (hg p w cs h).mono fun e w' hh => ⟨⟨none, 0, none, 0, hh.1⟩, hh.2⟩) p _ _ (RdE.on H2.out.2 _ _ h))
  have HES : Hid (env.size = 8) := Lib.hid he
  clear h hg he
  go_enter Tryz.func46, Tryz.ntmps46
  go_wp2_with (first
    | (refine wpList_load_blk rfl 118 _ rfl _ _ _ HXB.out rfl _ Tryz.underlying118 rfl info9x ?_)
    | (refine wpList_load_blk rfl 92 _ rfl _ _ _ H2.out.1 rfl _ Tryz.underlying92 rfl (by rw [HES.out]; exact info8e) ?_)
    | (go_at_call 87; refine HEV.out.mono ?_; rintro r w5 ⟨⟨NA, nla, NB, nlb, rfl⟩, hx⟩; have HX5 := Lib.hid (H2.out.2.trans' (hx.trans' (ext_al w5 (.cells #[.int .i64 1, .bool t, .int .i64 0, .string ⟨#[]⟩, .slice NA 0 nla, .slice NB 0 nlb] 32)))); clear hx))
  exact hR.out _ _ ⟨rfl, HX5.out⟩
end Go.Proofs.YtnpaikdaogikcaaGreatDoor

/- replay: the span of two numbers. -/
namespace Go.Proofs.YtnpaikdaogikcaaGreatDoor
set_option maxRecDepth 100000
open Go.RowKit
set_option linter.unusedVariables false
set_option linter.unusedSimpArgs false

theorem countW (lo hi : Int) (h0 : 0 ≤ lo) (h1 : lo ≤ hi) (h2 : hi ≤ 100000) (w : World) : Calls Tryz.prog 73 #[.int .i64 lo, .int .i64 hi] w fun e w' => e = .returned (.tuple #[.int .i64 (hi - lo + 1), .int .i64 0]) ∧ w' = w := by
  refine of_post fun R hR => ?_
  have g1 : ¬ hi < lo := by omega
  have g2 : IntKind.u64.wrap lo = lo := by rw [IntKind.wrap_u64]; omega
  have g3 : IntKind.u64.wrap hi = hi := by rw [IntKind.wrap_u64]; omega
  obtain ⟨d, hd⟩ : ∃ d, hi - lo = d := ⟨_, rfl⟩
  have g4 : IntKind.u64.wrap (hi - lo) = d := by rw [IntKind.wrap_u64]; omega
  have g5 : d < 4294967296 := by omega
  have g7 : d ≤ 100000 := by omega
  have g8 : 0 ≤ d := by omega
  have g6 : wrap64 d = d := by unfold wrap64; omega
  have HD := Lib.hid hd
  clear hd h0 h1 h2
  go_enter Tryz.func73, Tryz.ntmps73
  go_wp2_with fail
  exact hR.out _ _ ⟨by rw [HD.out], rfl⟩
abbrev envO : Array Value := envG 0 false 0 ⟨#[]⟩ none 0 0 none 0 0
set_option maxHeartbeats 4000000 in
theorem spanR (lo hi : Int) (h0 : 0 ≤ lo) (h1 : lo ≤ hi) (h2 : hi ≤ 100000) (p : Nat → Prop) (w : World) (xcs : List (List Value)) (X : Option Addr) (xc : Nat) (hes : RdEs p w [lit (.ofInt lo), lit (.ofInt hi)] xcs) (hcf : CellsFrom p w X xcs.flatten) :
    Calls Tryz.prog 38 #[.slice X 2 xc, .agg envO] w fun e w' => e = .returned (.tuple #[.int .i64 lo, .int .i64 (hi - lo + 1)]) ∧ Ext w w' := by
  refine of_post fun R hR => ?_
  obtain ⟨bA, oA, rfl, _, hcell⟩ := hcf (by
    have hA := (RdEs_iff _ _ _ _).1 hes
    cases hA with
    | cons h1 t => intro e; have := h1.len; simp at e; simp [e.1] at this)
  obtain ⟨ci, hri, hrg⟩ := RdEs_row hes hcell (i := 0) (by simp)
  obtain ⟨cj, hrj, hrh⟩ := RdEs_row hes hcell (i := 1) (by simp)
  rw [Nat.zero_mul, Nat.add_zero] at hrg
  rw [Nat.one_mul] at hrh
  obtain ⟨yo, ym, yk, yb, yn, ys, yA, yla, yc, yB, ylb, yd, yC, ylc, ye, rfl⟩ := RdE.nine hri
  obtain ⟨xo, xm, xk, xb, xn, xs, xA, xla, xc', xB, xlb, xd, xC, xlc, xe, rfl⟩ := RdE.nine hrj
  have HW1 := Lib.hid (fun W (hx : Ext w W) => wholeE (lit (.ofInt lo)) envO rfl lo (gotLit lo 0 false 0 ⟨#[]⟩ none 0 0 none 0 0) p W (X9 yo ym yk yb yn ys yA yla yc yB ylb yd yC ylc ye) (RdE.on hx _ _ hri))
  have HW2 := Lib.hid (fun W (hx : Ext w W) => wholeE (lit (.ofInt hi)) envO rfl hi (gotLit hi 0 false 0 ⟨#[]⟩ none 0 0 none 0 0) p W (X9 xo xm xk xb xn xs xA xla xc' xB xlb xd xC xlc xe) (RdE.on hx _ _ hrj))
  have HCT := fun w => Lib.hid (countW lo hi h0 h1 h2 w)
  have HRG := Lib.hid hrg
  have HRH := Lib.hid hrh
  have HEB := Lib.hid (Blk.new w envO 92)
  have HX := Lib.hid (ext_al w (.cells envO 92))
  have g9 : ((hi - lo + 1 : Int) == 0) = false := by rw [beq_eq_false_iff_ne]; omega
  clear hes hcf hcell hri hrj hrg hrh h0 h1 h2
  go_enter Tryz.func38, Tryz.ntmps38
  go_upto_region 2 with fail
  generalize hw2 : w.alloc (.cells envO 92) = w2 at *
  clear hw2
  generalize w.heap.size = eb at *
  have HS4 : Hid (∀ X, Ext w2 X → X.cell? ⟨bA, oA, none⟩ = some (.string yo) ∧ X.cell? ⟨bA, oA + 1, none⟩ = some (.string ym) ∧ X.cell? ⟨bA, oA + 2, none⟩ = some (.int .i64 yk) ∧ X.cell? ⟨bA, oA + 3, none⟩ = some (.bool yb) ∧ X.cell? ⟨bA, oA + 4, none⟩ = some (.int .i64 yn) ∧ X.cell? ⟨bA, oA + 5, none⟩ = some (.string ys) ∧ X.cell? ⟨bA, oA + 6, none⟩ = some (.slice yA yla yc) ∧ X.cell? ⟨bA, oA + 7, none⟩ = some (.slice yB ylb yd) ∧ X.cell? ⟨bA, oA + 8, none⟩ = some (.slice yC ylc ye) ∧ X.cell? ⟨bA, oA + 9, none⟩ = some (.string xo) ∧ X.cell? ⟨bA, oA + 9 + 1, none⟩ = some (.string xm) ∧ X.cell? ⟨bA, oA + 9 + 2, none⟩ = some (.int .i64 xk) ∧ X.cell? ⟨bA, oA + 9 + 3, none⟩ = some (.bool xb) ∧ X.cell? ⟨bA, oA + 9 + 4, none⟩ = some (.int .i64 xn) ∧ X.cell? ⟨bA, oA + 9 + 5, none⟩ = some (.string xs) ∧ X.cell? ⟨bA, oA + 9 + 6, none⟩ = some (.slice xA xla xc') ∧ X.cell? ⟨bA, oA + 9 + 7, none⟩ = some (.slice xB xlb xd) ∧ X.cell? ⟨bA, oA + 9 + 8, none⟩ = some (.slice xC xlc xe) ∧ X.cell? ⟨eb, 0, none⟩ = some (.int .i64 0) ∧ X.cell? ⟨eb, 1, none⟩ = some (.bool false) ∧ X.cell? ⟨eb, 2, none⟩ = some (.int .i64 0) ∧ X.cell? ⟨eb, 3, none⟩ = some (.string ⟨#[]⟩) ∧ X.cell? ⟨eb, 4, none⟩ = some (.slice none 0 0) ∧ X.cell? ⟨eb, 5, none⟩ = some (.slice none 0 0) ∧ X.cell? ⟨eb, 6, none⟩ = some (.slice none 0 0) ∧ X.cell? ⟨eb, 7, none⟩ = some (.slice none 0 0)) := Lib.hid fun X hx => by
    have k1 := fun j v hv => (HX.out.trans' hx).cell' (HRG.out j v hv)
    have k2 := fun j v hv => (HX.out.trans' hx).cell' (HRH.out j v hv)
    have k3 := (HEB.out.on hx).cell
    exact ⟨k1 0 _ rfl, k1 1 _ rfl, k1 2 _ rfl, k1 3 _ rfl, k1 4 _ rfl, k1 5 _ rfl, k1 6 _ rfl, k1 7 _ rfl, k1 8 _ rfl, k2 0 _ rfl, k2 1 _ rfl, k2 2 _ rfl, k2 3 _ rfl, k2 4 _ rfl, k2 5 _ rfl, k2 6 _ rfl, k2 7 _ rfl, k2 8 _ rfl, k3 0, k3 1, k3 2, k3 3, k3 4, k3 5, k3 6, k3 7⟩
  have hcd := HS4.out w2.drew ((Ext.refl' w2).drewN' 1)
  go_region_held3 (fun X => X.cell? ⟨bA, oA, none⟩ = some (.string yo) ∧ X.cell? ⟨bA, oA + 1, none⟩ = some (.string ym) ∧ X.cell? ⟨bA, oA + 2, none⟩ = some (.int .i64 yk) ∧ X.cell? ⟨bA, oA + 3, none⟩ = some (.bool yb) ∧ X.cell? ⟨bA, oA + 4, none⟩ = some (.int .i64 yn) ∧ X.cell? ⟨bA, oA + 5, none⟩ = some (.string ys) ∧ X.cell? ⟨bA, oA + 6, none⟩ = some (.slice yA yla yc) ∧ X.cell? ⟨bA, oA + 7, none⟩ = some (.slice yB ylb yd) ∧ X.cell? ⟨bA, oA + 8, none⟩ = some (.slice yC ylc ye) ∧ X.cell? ⟨bA, oA + 9, none⟩ = some (.string xo) ∧ X.cell? ⟨bA, oA + 9 + 1, none⟩ = some (.string xm) ∧ X.cell? ⟨bA, oA + 9 + 2, none⟩ = some (.int .i64 xk) ∧ X.cell? ⟨bA, oA + 9 + 3, none⟩ = some (.bool xb) ∧ X.cell? ⟨bA, oA + 9 + 4, none⟩ = some (.int .i64 xn) ∧ X.cell? ⟨bA, oA + 9 + 5, none⟩ = some (.string xs) ∧ X.cell? ⟨bA, oA + 9 + 6, none⟩ = some (.slice xA xla xc') ∧ X.cell? ⟨bA, oA + 9 + 7, none⟩ = some (.slice xB xlb xd) ∧ X.cell? ⟨bA, oA + 9 + 8, none⟩ = some (.slice xC xlc xe) ∧ X.cell? ⟨eb, 0, none⟩ = some (.int .i64 0) ∧ X.cell? ⟨eb, 1, none⟩ = some (.bool false) ∧ X.cell? ⟨eb, 2, none⟩ = some (.int .i64 0) ∧ X.cell? ⟨eb, 3, none⟩ = some (.string ⟨#[]⟩) ∧ X.cell? ⟨eb, 4, none⟩ = some (.slice none 0 0) ∧ X.cell? ⟨eb, 5, none⟩ = some (.slice none 0 0) ∧ X.cell? ⟨eb, 6, none⟩ = some (.slice none 0 0) ∧ X.cell? ⟨eb, 7, none⟩ = some (.slice none 0 0)) (first | exact hcd | exact hce | go_keep) ((go_at_call 72; refine (HW1.out _ (HX.out.trans' ((Ext.refl' w2).drewN' 1))).mono ?_; rintro e w3 ⟨rfl, hx⟩; have HX3 := Lib.hid (((Ext.refl' w2).drewN' 1).trans' hx); have hce := HS4.out w3 HX3.out; clear hx))
  go_upto_region 3 with fail
  have hcf := HS4.out w3.drew (HX3.out.trans' ((Ext.refl' w3).drewN' 1))
  clear hcd hce
  go_region_held3 (fun X => X.cell? ⟨bA, oA, none⟩ = some (.string yo) ∧ X.cell? ⟨bA, oA + 1, none⟩ = some (.string ym) ∧ X.cell? ⟨bA, oA + 2, none⟩ = some (.int .i64 yk) ∧ X.cell? ⟨bA, oA + 3, none⟩ = some (.bool yb) ∧ X.cell? ⟨bA, oA + 4, none⟩ = some (.int .i64 yn) ∧ X.cell? ⟨bA, oA + 5, none⟩ = some (.string ys) ∧ X.cell? ⟨bA, oA + 6, none⟩ = some (.slice yA yla yc) ∧ X.cell? ⟨bA, oA + 7, none⟩ = some (.slice yB ylb yd) ∧ X.cell? ⟨bA, oA + 8, none⟩ = some (.slice yC ylc ye) ∧ X.cell? ⟨bA, oA + 9, none⟩ = some (.string xo) ∧ X.cell? ⟨bA, oA + 9 + 1, none⟩ = some (.string xm) ∧ X.cell? ⟨bA, oA + 9 + 2, none⟩ = some (.int .i64 xk) ∧ X.cell? ⟨bA, oA + 9 + 3, none⟩ = some (.bool xb) ∧ X.cell? ⟨bA, oA + 9 + 4, none⟩ = some (.int .i64 xn) ∧ X.cell? ⟨bA, oA + 9 + 5, none⟩ = some (.string xs) ∧ X.cell? ⟨bA, oA + 9 + 6, none⟩ = some (.slice xA xla xc') ∧ X.cell? ⟨bA, oA + 9 + 7, none⟩ = some (.slice xB xlb xd) ∧ X.cell? ⟨bA, oA + 9 + 8, none⟩ = some (.slice xC xlc xe) ∧ X.cell? ⟨eb, 0, none⟩ = some (.int .i64 0) ∧ X.cell? ⟨eb, 1, none⟩ = some (.bool false) ∧ X.cell? ⟨eb, 2, none⟩ = some (.int .i64 0) ∧ X.cell? ⟨eb, 3, none⟩ = some (.string ⟨#[]⟩) ∧ X.cell? ⟨eb, 4, none⟩ = some (.slice none 0 0) ∧ X.cell? ⟨eb, 5, none⟩ = some (.slice none 0 0) ∧ X.cell? ⟨eb, 6, none⟩ = some (.slice none 0 0) ∧ X.cell? ⟨eb, 7, none⟩ = some (.slice none 0 0)) (first | exact hcf | exact hcg | go_keep) ((go_at_call 72; refine (HW2.out _ (HX.out.trans' (HX3.out.trans' ((Ext.refl' w3).drewN' 1)))).mono ?_; rintro e w4 ⟨rfl, hx⟩; have HX4 := Lib.hid (HX3.out.trans' (((Ext.refl' w3).drewN' 1).trans' hx)); have hcg := HS4.out w4 HX4.out; clear hx))
  clear hcf hcg
  all_goals
    go_wp2_with (go_at_call 73; refine (HCT _).out.mono ?_; rintro e w5 ⟨rfl, hw⟩; obtain rfl := hw)
    exact hR.out _ _ ⟨rfl, HX.out.trans' HX4.out⟩
end Go.Proofs.YtnpaikdaogikcaaGreatDoor

/- A run: a number of a span. -/
namespace Go.Proofs.YtnpaikdaogikcaaGreatDoor
set_option maxRecDepth 100000
open Go.RowKit
set_option linter.unusedVariables false
set_option linter.unusedSimpArgs false

set_option maxHeartbeats 4000000 in
theorem run_range (lo hi : Int) (h0 : 0 ≤ lo) (h1 : lo ≤ hi) (h2 : hi ≤ 10000) (mk gb sb u : Nat) (l : List Int) (dv : Value) (ds : List Int) (steps most : Nat) (x1 x5 : ByteArray) (x2 x4 : Int) (x3 : Bool) (x6 x9 z3 z6 y1 z9 : Option Addr) (x7 x8 z1 z2 z4 z5 z7 z8 y2 y3 q1 q2 : Nat) (X : Option Addr) (xc : Nat) (p : Nat → Prop) (hp : ∀ b, p b → b < sb) (xcs : List (List Value)) (w : World)
    (hes : RdEs p w [lit (.ofInt lo), lit (.ofInt hi)] xcs) (hcf : CellsFrom p w X xcs.flatten)
    (h : Mac w mk gb sb u l dv ds steps most) (hs : steps < most) (hm : most ≤ 65536) (hl : l.length ≤ 10000) (hu : u ≤ 10000) (hr : ∀ x ∈ l, 0 ≤ x ∧ x < hi - lo + 1) (hd : ds.length ≤ 1000) :
    Calls Tryz.prog 23 #[.pointer (some ⟨mk, 0, none⟩), .agg #[.int .i64 1, .string x1, .int .i64 x2, .bool x3, .int .i64 x4, .string x5, .slice x6 x7 x8, .slice x9 z1 z2, .slice z3 z4 z5, .slice z6 z7 z8, .slice y1 y2 y3, .slice X 2 xc, .slice z9 q1 q2], .agg envZ] w fun e w' => e = .returned (.agg (cellsInt (lo + toldAt l u)).toArray) ∧ Keeps (KD mk sb dv) w w' ∧ ∃ dv', Grew w dv dv' ∧ Mac w' mk gb sb (u + 1) l dv' (ds ++ [toldAt l u]) (steps + 1) most := by
  refine of_post fun R hR => ?_
  have hx1 := ext_al w (.cells #[.int .i64 1, .string x1, .int .i64 x2, .bool x3, .int .i64 x4, .string x5, .slice x6 x7 x8, .slice x9 z1 z2, .slice z3 z4 z5, .slice z6 z7 z8, .slice y1 y2 y3, .slice X 2 xc, .slice z9 q1 q2] 51)
  have hb1 := Blk.new w #[.int .i64 1, .string x1, .int .i64 x2, .bool x3, .int .i64 x4, .string x5, .slice x6 x7 x8, .slice x9 z1 z2, .slice z3 z4 z5, .slice z6 z7 z8, .slice y1 y2 y3, .slice X 2 xc, .slice z9 q1 q2] 51
  have hs1 : (w.alloc (.cells #[.int .i64 1, .string x1, .int .i64 x2, .bool x3, .int .i64 x4, .string x5, .slice x6 x7 x8, .slice x9 z1 z2, .slice z3 z4 z5, .slice z6 z7 z8, .slice y1 y2 y3, .slice X 2 xc, .slice z9 q1 q2] 51)).heap.size = w.heap.size + 1 := World.size_alloc _ _
  have hmk := h.blk.lt
  have HLT := Lib.hid h.lt
  have HOL : Hid (∀ b, dv.ownBlock = some b → b < w.heap.size ∧ mk < b) := Lib.hid fun b hb => ⟨(h.own.lt b hb).2, (h.own.lt b hb).1⟩
  generalize hw1 : w.alloc (.cells #[.int .i64 1, .string x1, .int .i64 x2, .bool x3, .int .i64 x4, .string x5, .slice x6 x7 x8, .slice x9 z1 z2, .slice z3 z4 z5, .slice z6 z7 z8, .slice y1 y2 y3, .slice X 2 xc, .slice z9 q1 q2] 51) = w1 at *
  have hx2 := ext_al w1 (.cells envZ 92)
  have hb2 := Blk.new w1 envZ 92
  have hs2 : (w1.alloc (.cells envZ 92)).heap.size = w1.heap.size + 1 := World.size_alloc _ _
  rw [hs1] at hb2
  generalize hw2 : w1.alloc (.cells envZ 92) = w2 at *
  have hx3 := ext_al w2 (.cells zero6a 32)
  have hb3 := Blk.new w2 zero6a 32
  generalize hw3 : w2.alloc (.cells zero6a 32) = w3 at *
  have HW1 := Lib.hid hw1
  have HW2 := Lib.hid hw2
  have HW3 := Lib.hid hw3
  have HSZ : Hid (w1.heap.size = w.heap.size + 1 ∧ w2.heap.size = w.heap.size + 2 ∧ mk < w.heap.size ∧ sb < mk) := Lib.hid ⟨hs1, by omega, hmk, HLT.out⟩
  have HX := Lib.hid ((hx1.trans' hx2).trans' hx3)
  have HB := Lib.hid ((hb1.on hx2).on hx3)
  have HE := Lib.hid (hb2.on hx3)
  have HR3 := Lib.hid hb3
  have HC := Lib.hid (h.on ((hx1.trans' hx2).trans' hx3))
  have HES := Lib.hid hes
  have HCF := Lib.hid hcf
  have HPB := Lib.hid hp
  have k1 : ((steps : Int) == (most : Int)) = false := by simp; omega
  have k2 : (steps : Int) + 1 ≤ 65536 := by omega
  clear h hx1 hb1 hs1 hmk hw1 hx2 hs2 hw2 hx3 hw3 hb2 hb3 hes hcf hp
  go_enter Tryz.func23, Tryz.ntmps23
  go_upto_region 1 with fail
  rw [HW1.out, HW2.out, HW3.out]
  have hcm := HC.out.blk.cell
  go_upto_region 3 with fail
  go_cut [25] (fun s wx => s = .bool false ∧ Hid (Ext w3 wx))
  case first =>
    go_region
    all_goals
      go_wp2_with fail
      go_meet
      exact ⟨rfl, Lib.hid ((Ext.refl' _).drewN' 1)⟩
  obtain ⟨rfl, HXC⟩ := hcut
  have HC2 := Lib.hid (HC.out.on HXC.out)
  have HB2 := Lib.hid (HB.out.on HXC.out)
  have HE2 := Lib.hid (HE.out.on HXC.out)
  have HR2 := Lib.hid (HR3.out.on HXC.out)
  have hcm2 := HC2.out.blk.cell
  have hfm2 := HC2.out.blk.frozen
  clear hcm HC HB HE HR3
  go_upto_region 6 with fail
  have HKS := Lib.hid (Keeps.set wc ⟨mk, 3, none⟩ (.int .i64 ((steps : Int) + 1)))
  have HC5 := Lib.hid HC2.out.step
  have HB5 := Lib.hid (HB2.out.keeps HKS.out (by have := HSZ.out; show ¬ w.heap.size = mk; omega))
  have HE5 := Lib.hid (HE2.out.keeps HKS.out (by have := HSZ.out; show ¬ w.heap.size + 1 = mk; omega))
  have HR5 := Lib.hid (HR2.out.keeps HKS.out (by have := HSZ.out; show ¬ w2.heap.size = mk; omega))
  obtain ⟨w5, hw5⟩ : ∃ w5, wc.setCell ⟨mk, 3, none⟩ (.int .i64 ((steps : Int) + 1)) = w5 := ⟨_, rfl⟩
  rw [hw5] at HC5 HB5 HE5 HR5 HKS ⊢
  have hcb := HB5.out.cell
  clear hw5 hcm2 hfm2
  have HK5 : Hid (Keeps (fun x => x = mk) w w5) := Lib.hid ((Keeps.of_ext (HX.out.trans' HXC.out)).trans HKS.out)
  have HMV : Hid (∀ A cs, CellsFrom p w A cs → CellsFrom p w5 A cs) := Lib.hid fun A cs hc => hc.keeps HK5.out fun b hb e => by have := HPB.out b hb; have h1 : b = mk := e; have := HSZ.out; omega
  have HSP := Lib.hid (spanR lo hi h0 h1 (by omega) p w5 xcs X xc (RdEs.move HMV.out _ _ HES.out) (HMV.out _ _ HCF.out))
  have HCH := Lib.hid (fun (X : World) (hx : Ext w5 X) => chooseM0 mk gb sb u l (hi - lo + 1) dv ds (steps + 1) most X (HC5.out.on hx) hl hu hr (by omega) (by omega) hd)
  obtain ⟨k3, k4⟩ := toldAt_ok (u := u) hr (by omega)
  have HNV := fun n w => Lib.hid (numberV n w)
  generalize toldAt l u = x at *
  have k5 : ((hi - lo + 1 : Int) == 0) = false := by rw [beq_eq_false_iff_ne]; omega
  have k6 : wrap64 (lo + x) = lo + x := by unfold wrap64; omega
  have k7 : IntKind.i64.wrap (lo + x) = lo + x := by rw [IntKind.wrap_i64]; omega
  have hpt : (Value.pointer (some ⟨w.heap.size + 1 + 1, 0, none⟩)) = .pointer (some ⟨w2.heap.size, 0, none⟩) := by rw [HSZ.out.2.1]
  rw [hpt]
  clear hpt hr h0 h1 h2 HMV
  go_wp2_with (first
    | (refine wpList_load_blk rfl 92 _ rfl _ _ _ HE5.out rfl _ Tryz.underlying92 rfl info8e ?_)
    | (go_at_call 38; refine HSP.out.mono ?_; rintro e w6 ⟨rfl, hx⟩; have HX6 := Lib.hid hx; clear hx)
    | (go_at_call 40; refine (HCH.out _ HX6.out).mono ?_; rintro e w7 ⟨rfl, hk, dv', hg, hm7⟩; have HK7 := Lib.hid ((Keeps.of_ext HX6.out).trans hk); have HG7 := Lib.hid hg; have HM7 := Lib.hid hm7; clear hk hg hm7)
    | (go_at_call 39; refine (HNV _ _).out.mono ?_; rintro e w8 ⟨rfl, hx⟩; have HX8 := Lib.hid hx; have HR8 := Lib.hid ((HR5.out.keeps HK7.out (fun e => by
        have := HSZ.out
        rcases e with e | e | e
        · have h1 : w2.heap.size = sb := e; omega
        · have h1 : w2.heap.size = mk := e; omega
        · have := (HOL.out _ e).1; omega)).on hx); clear hx)
    | (refine wpList_store_blk rfl 32 _ _ rfl rfl w2.heap.size zero6a (cellsInt (lo + x)).toArray 32 HR8.out rfl rfl info6p rfl (by simp [Value.oneCell']) ?_; intro w9 HB9 HK9))
  have HG5 : Hid (w.heap.size ≤ w5.heap.size) := Lib.hid HK5.out.size
  have HK59 : Hid (Keeps (fun b => b = w2.heap.size) w7 w9) := Lib.hid ((Keeps.of_ext HX8.out).trans HK9.out)
  refine bodyPost_ret (results_cell Tryz.results23 HB9.out rfl _ Tryz.underlying32 rfl info6p) rfl (hR.out _ _ ⟨rfl, ?_, dv', ?_, ?_⟩)
  · exact (((HK5.out.mono (S' := fun x => KD mk sb dv x ∨ x = w2.heap.size) fun x _ e => .inl (.inr (.inl e))).trans (HK7.out.mono fun x _ e => .inl e)).trans (HK59.out.mono fun x _ e => .inr e)).mono fun x hx e => e.elim id fun e => by have := HSZ.out; omega
  · exact HG7.out.imp id fun ⟨q, e, hq⟩ => ⟨q, e, Nat.le_trans HG5.out (Nat.le_trans HX6.out.size hq)⟩
  · have hsz := HSZ.out
    have hlt : w2.heap.size < w5.heap.size := HR5.out.lt
    refine HM7.out.keeps HK59.out (fun x hx e => by have h1 : x = w2.heap.size := e; omega) fun x hx e => ?_
    have h1 : x = w2.heap.size := e
    rcases HG7.out with h2 | ⟨q, h2, hq⟩
    · rw [hx] at h2
      have := (HOL.out x h2.symm).1
      omega
    · rw [hx] at h2
      injection h2 with h2
      have h3 : w6.heap.size ≤ q := hq
      have h4 := HX6.out.size
      omega
end Go.Proofs.YtnpaikdaogikcaaGreatDoor
