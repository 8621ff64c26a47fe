/- A run of a pick of numbers, wherever it lies. -/
import Derived.Test.YtnpaikdaogikcaaGreatDoorG29
import Derived.Test.YtnpaikdaogikcaaGreatDoorG13
import Derived.Test.YtnpaikdaogikcaaGreatDoorG20
import Derived.Test.YtnpaikdaogikcaaGreatDoorG28

namespace Go.Proofs.YtnpaikdaogikcaaGreatDoor
set_option maxRecDepth 100000
open Go.RowKit
set_option linter.unusedVariables false
set_option linter.unusedSimpArgs false

/-- A pick of numbers. -/
abbrev tPickN (ws ns : List Int) : T := .mk 2 [] .none [] ws (ns.map fun n => tJust (.ofInt n)) [] []
theorem run_pickT (mk gb sb u : Nat) (l ws ns : List Int) (hlen : ns.length = ws.length) (dv : Value) (ds : List Int) (steps most : Nat) (w0 : World) (ts : List Value) (hT : RdT Any w0 (tPickN ws ns) ts) (w : World) (hx : Ext w0 w) (hsb : w0.heap.size ≤ sb)
    (h : Mac w mk gb sb u l dv ds steps most) (hs : steps + 1 < most) (hm : most ≤ 65536) (hu : u < l.length) (hl : l.length ≤ 10000) (h0 : 0 ≤ l[u]) (hlt : l[u] < sumL ws) (hw : ∀ n ∈ ws, 1 ≤ n ∧ n ≤ 1000) (hn : ws.length ≤ 64) (hd : ds.length ≤ 1000)
    (pl : Nat) (hpl : pl = placeL ws (l[u]?.getD 0)) (hp : pl < ws.length) :
    Calls Tryz.prog 23 #[.pointer (some ⟨mk, 0, none⟩), .agg ts.toArray, .agg envZ] w fun e w' => (∃ Y1 d1 Y2 d2, e = .returned (.agg #[.int .i64 2, .bool false, .int .i64 (ns[pl]?.getD 0), .string ⟨#[]⟩, .slice Y1 0 d1, .slice Y2 0 d2])) ∧ Keeps (KD mk sb dv) w w' ∧ ∃ dv', Grew w dv dv' ∧ Mac w' mk gb sb (u + 1) l dv' (ds ++ [(pl : Int)]) (steps + 2) most := by
  simp only [tPickN, RdT] at hT
  obtain ⟨vs, K, kc, W, cw, A, c, X, xc, Z, zc, ics, xcs, rfl, hv, _, _, _, _, _, _, hW, hps, hA, _⟩ := hT
  obtain ⟨k, vb, vn, s, A1, la, c1, B1, lb, d1, rfl⟩ := hv.six
  have hpn : pl < (ns.map fun n => tJust (.ofInt n)).length := by simp; omega
  have hne : ics.flatten ≠ [] := by
    have hA2 := (RdTs_iff _ _ _ _).1 hps
    obtain ⟨c2, h1, h2⟩ := hA2.get hpn
    intro e
    have h3 := List.flatten_eq_nil_iff.1 e c2 (List.mem_of_getElem? h1)
    have h4 := h2.len
    rw [h3] at h4
    simp at h4
  obtain ⟨b, o, rfl, _, hcell⟩ := hA hne
  obtain ⟨cs, hr, hrange⟩ := RdTs_row hps hcell hpn
  have hg : (ns.map fun n => tJust (.ofInt n))[pl] = tJust (.ofInt (ns[pl]?.getD 0)) := by
    have : pl < ns.length := by omega
    simp [this]
  rw [hg] at hr
  simp only [tJust, RdT] at hr
  obtain ⟨vs2, K2, kc2, W2, wc2, A2, c2, X2, xc2, Z2, zc2, ics2, xcs2, rfl, hv2, _⟩ := hr
  simp only [RdV] at hv2
  obtain ⟨Y1, e1, Y2, e2, is, rfl, h1, h2, h3, _⟩ := hv2
  have hb : b < w0.heap.size := lt_of_cell (hrange 0 _ rfl)
  have hWb : ∀ B O, W = some ⟨B, O, none⟩ → B < sb := fun B O e => by
    obtain ⟨B2, O2, e2, hc2⟩ := hW.at_ (by intro e; rw [List.map_eq_nil_iff] at e; rw [e] at hp; simp at hp)
    rw [e] at e2
    cases e2
    cases hws : ws with
    | nil => rw [hws] at hp; simp at hp
    | cons x r => exact Nat.lt_of_lt_of_le (lt_of_cell (hc2 0 (I64 x) (by rw [hws]; rfl))) hsb
  have hmain := run_pick mk gb sb u l ws dv ds steps most (ns[pl]?.getD 0) W cw b o c pl ⟨#[]⟩ s k vn vb A1 B1 K X Z la c1 lb d1 0 kc 0 xc 0 zc Y1 Y2 e1 e2 (sv []) (.slice K2 0 kc2) (.slice W2 0 wc2) (.slice A2 0 c2) (.slice X2 0 xc2) (.slice Z2 0 zc2)
    (fun q W' => by simp only [RdV]; exact ⟨Y1, e1, Y2, e2, [], rfl, h1, h2, rfl, CellsFrom.nil _ _ _, CellsFrom.nil _ _ _⟩) w h hs hm hpl hu hl h0 hlt (hW.at_.ext hx) hWb hw hn (by omega) hp hd (by omega) (fun j v hj => hx.cell' (hrange j v hj))
  have hlen2 : (ns.map fun n => tJust (.ofInt n)).length = ws.length := by simp [hlen]
  rw [hlen2]
  refine Calls.mono hmain ?_
  rintro e w' ⟨rfl, h2, h3⟩
  exact ⟨⟨Y1, e1, Y2, e2, rfl⟩, h2, h3⟩
end Go.Proofs.YtnpaikdaogikcaaGreatDoor

/- GenerateFilters: a run of its term. -/
namespace Go.Proofs.YtnpaikdaogikcaaGreatDoor
set_option maxRecDepth 100000
open Go.RowKit
set_option linter.unusedVariables false
set_option linter.unusedSimpArgs false

/-- A number passes. -/
def passes (v : Int) : Bool := decide (Int.tmod v 5 = 0)
theorem testT (v : Int) : TV eTest (envG 2 false v ⟨#[]⟩ none 0 0 none 0 0) (passes v) :=
  gotEq eMod (lit (.ofInt 0)) (v.tmod 5) 0 2 false v ⟨#[]⟩ none 0 0 none 0 0 (gotMod eThis (lit (.ofInt 5)) v 5 2 false v ⟨#[]⟩ none 0 0 none 0 0 (gotThis v none 0 none 0) (gotLit 5 2 false v ⟨#[]⟩ none 0 0 none 0 0) (by decide)) (gotLit 0 2 false v ⟨#[]⟩ none 0 0 none 0 0)
theorem run_filterT (mk gb sb u : Nat) (l : List Int) (dv : Value) (ds : List Int) (steps most : Nat) (w0 : World) (ts : List Value) (hT : RdT Any w0 tFilter ts) (w : World) (hx : Ext w0 w) (hsb : w0.heap.size ≤ sb)
    (h : Mac w mk gb sb u l dv ds steps most) (hs : steps + 1 < most) (hm : most ≤ 65536) (hl : l.length ≤ 10000) (hu : u ≤ 10000) (hr : ∀ x ∈ l, 0 ≤ x ∧ x < 100) (hd : ds.length ≤ 1000) :
    Calls Tryz.prog 23 #[.pointer (some ⟨mk, 0, none⟩), .agg ts.toArray, .agg envZ] w fun e w' => Keeps (KD mk sb dv) w w' ∧ ∃ dv', Grew w dv dv' ∧ Passed (toldAt l u) (passes (toldAt l u)) mk gb sb (u + 1) l dv' (ds ++ [toldAt l u]) (steps + 2) most e w' := by
  have hT2 : RdT (fun b => b < w0.heap.size) w tFilter ts := RdT.move (fun A cs hc => (hc.lt.mono fun b h => h.2).ext hx) _ _ hT
  simp only [tFilter, tWhere, RdT] at hT2
  obtain ⟨vs, K, kc, W, cw, A, c, X, xc, Z, zc, ics, xcs, rfl, hv, _, _, _, _, _, _, hW, hps, hA, hes, hX, _⟩ := hT2
  obtain ⟨k, vb, vn, s, A1, la, c1, B1, lb, d1, rfl⟩ := hv.six
  have hpn : 0 < [tSpan].length := by simp
  have hne : ics.flatten ≠ [] := by
    have hA2 := (RdTs_iff _ _ _ _).1 hps
    obtain ⟨c2, h1, h2⟩ := hA2.get hpn
    intro e
    have h3 := List.flatten_eq_nil_iff.1 e c2 (List.mem_of_getElem? h1)
    have h4 := h2.len
    rw [h3] at h4
    simp at h4
  obtain ⟨b, o, rfl, hbl, hcell⟩ := hA hne
  obtain ⟨cs, hpr, hrange⟩ := RdTs_row hps hcell hpn
  have hxn : xcs.flatten ≠ [] := by
    have hA2 := (RdEs_iff _ _ _ _).1 hes
    obtain ⟨c2, h1, h2⟩ := hA2.get (i := 0) (by simp)
    intro e
    have h3 := List.flatten_eq_nil_iff.1 e c2 (List.mem_of_getElem? h1)
    have h4 := h2.len
    rw [h3] at h4
    simp at h4
  obtain ⟨bX, oX, rfl, hbX, hxcell⟩ := hX hxn
  obtain ⟨xcells, hxr, hxrange⟩ := RdEs_row hes hxcell (i := 0) (by simp)
  rw [Nat.zero_mul, Nat.add_zero] at hrange hxrange
  change RdE _ w eTest xcells at hxr
  change RdT _ w tSpan cs at hpr
  obtain ⟨xo, xm, xk, xb, xn, xs, xA, xla, xc', xB, xlb, xd, xC, xlc, xe, rfl⟩ := RdE.nine hxr
  simp only [tSpan, tRange, RdT] at hpr
  obtain ⟨vs2, K2, kc2, W2, wc2, A2, c2, X2, xc2, Z2, zc2, ics2, xcs2, rfl, hv2, _, _, _, _, _, _, _, _, _, hes2, hX2, _⟩ := hpr
  obtain ⟨k2, vb2, vn2, s2, A12, la2, c12, B12, lb2, d12, rfl⟩ := hv2.six
  refine Calls.mono (run_filter eTest (passes (toldAt l u)) (toldAt l u) 0 99 (by omega) (by omega) (by omega) mk gb sb u l (by omega) (testT _) dv ds steps most ⟨#[]⟩ s k vn vb A1 B1 K W Z la c1 lb d1 0 kc 0 cw 0 zc b o c bX oX xc ⟨#[]⟩ s2 k2 vn2 vb2 A12 B12 K2 W2 A2 Z2 la2 c12 lb2 d12 0 kc2 0 wc2 0 c2 0 zc2 X2 xc2
    xo xm xk xb xn xs xA xla xc' xB xlb xd xC xlc xe (fun b => b < w0.heap.size) (fun b hb => by omega) xcs2 w hes2 hX2 (by omega) (by omega) hrange hxrange hxr h hs hm hl hu (fun x hx => by have := hr x hx; omega) hd) fun e w' hh => hh
end Go.Proofs.YtnpaikdaogikcaaGreatDoor

/- A grammar's term by its name. -/
namespace Go.Proofs.YtnpaikdaogikcaaGreatDoor
set_option maxRecDepth 100000
open Go.RowKit
set_option linter.unusedVariables false
set_option linter.unusedSimpArgs false

theorem Gram.on {w w' : World} {gb : Nat} {nm : Bs} {cs : List Value} (h : Gram w gb nm cs) (hx : Ext w w') : Gram w' gb nm cs := by
  obtain ⟨mb, dv, wd, h1, h2, h3⟩ := h.ex
  exact ⟨mb, dv, wd, h1.on hx, h2.on hx, h3⟩
theorem assoc_one (nm : Bs) (v : Value) : assocB [(nm, v)] nm = some v := by simp [assocB]
set_option maxHeartbeats 2000000 in
theorem findT (gb : Nat) (nm : Bs) (t : T) (p : Nat → Prop) (wr : World) (ts : List Value) (hr : RdT p wr t ts) (w : World) (h : Gram w gb nm ts) (hn : nm.length ≤ 1000) :
    Calls Tryz.prog 11 #[.pointer (some ⟨gb, 0, none⟩), sv nm] w fun e w' => e = .returned (.tuple #[.agg ts.toArray, .bool true]) ∧ Ext w w' := by
  refine of_post fun R hR => ?_
  obtain ⟨x0, x1, x2, x3, x4, x5, x6, x7, x8, x9, y0, y1, y2, y3, y4, y5, y6, y7, y8, y9, z0, z1, z2, z3, z4, z5, z6, rfl⟩ := RdT.thirteen hr
  have hx1 := ext_al w (.cells zero13a 51)
  have HB1 := Lib.hid (Blk.new w zero13a 51)
  generalize hw1 : w.alloc (.cells zero13a 51) = w1 at *
  have HW1 := Lib.hid hw1
  obtain ⟨mb, dv, wd, h1, h2, h3⟩ := (h.on hx1).ex
  have hc := h1.cell
  have HX1 := Lib.hid hx1
  have HM := Lib.hid h2
  have HN : Hid (nm.length ≤ 1000000) := Lib.hid (by omega)
  clear h h1 h2 h3 hn hr hw1 hx1
  go_enter Tryz.func11, Tryz.ntmps11
  go_upto_region 1 with fail
  rw [HW1.out]
  go_wp2_with (first
    | (refine wpList_look rfl _ _ true rfl Tryz.underlying74 Tryz.underlying9 HM (by simp) (zeroTerm _) nm HN.out rfl rfl (some _) (assoc_one _ _) ?_)
    | (refine wpList_store_blk rfl 51 _ _ rfl rfl w.heap.size zero13a _ 51 (HB1.out.on (ext_al w1 _)) rfl rfl info13p rfl (by simp [Value.oneCell']) ?_; intro w9 HB9 HK9))
  refine bodyPost_ret (results_cell_1 Tryz.results11 HB9.out rfl _ Tryz.underlying51 rfl info13p) rfl (hR.out _ _ ⟨rfl, ?_⟩)
  exact ((Keeps.of_ext (HX1.out.trans' (ext_al w1 _))).trans HK9.out).ext fun k hk e => by have h1 : k = w.heap.size := e; omega
end Go.Proofs.YtnpaikdaogikcaaGreatDoor
