/- A run of a pick of numbers, wherever it lies. -/
import Derived.Test.YtmhdcnaibleihaaGreatDoorG10
import Derived.Test.YtmhdcnaibleihaaGreatDoorG09

namespace Go.Proofs.YtmhdcnaibleihaaGreatDoor
set_option maxRecDepth 100000
open Go.RowKit
set_option linter.unusedVariables false
set_option linter.unusedSimpArgs false

/-- A pick of numbers. -/
abbrev tPickN (ws ns : List Int) : T := .mk 2 [] .none [] ws (ns.map fun n => tJust (.ofInt n)) [] []
theorem run_pickT (mk gb sb u : Nat) (l ws ns : List Int) (hlen : ns.length = ws.length) (dv : Value) (ds : List Int) (steps most : Nat) (w0 : World) (ts : List Value) (hT : RdT Any w0 (tPickN ws ns) ts) (w : World) (hx : Ext w0 w) (hsb : w0.heap.size ≤ sb)
    (h : Mac w mk gb sb u l dv ds steps most) (hs : steps + 1 < most) (hm : most ≤ 65536) (hu : u < l.length) (hl : l.length ≤ 10000) (h0 : 0 ≤ l[u]) (hlt : l[u] < sumL ws) (hw : ∀ n ∈ ws, 1 ≤ n ∧ n ≤ 1000) (hn : ws.length ≤ 64) (hd : ds.length ≤ 1000)
    (pl : Nat) (hpl : pl = placeL ws (l[u]?.getD 0)) (hp : pl < ws.length) :
    Calls Tryz.prog 35 #[.pointer (some ⟨mk, 0, none⟩), .agg ts.toArray, .agg envZ] w fun e w' => (∃ Y1 d1 Y2 d2, e = .returned (.agg #[.int .i64 2, .bool false, .int .i64 (ns[pl]?.getD 0), .string ⟨#[]⟩, .slice Y1 0 d1, .slice Y2 0 d2])) ∧ Keeps (KD mk sb dv) w w' ∧ ∃ dv', Grew w dv dv' ∧ Mac w' mk gb sb (u + 1) l dv' (ds ++ [(pl : Int)]) (steps + 2) most := by
  simp only [tPickN, RdT] at hT
  obtain ⟨vs, K, kc, W, cw, A, c, X, xc, Z, zc, ics, xcs, rfl, hv, _, _, _, _, _, _, hW, hps, hA, _⟩ := hT
  obtain ⟨k, vb, vn, s, A1, la, c1, B1, lb, d1, rfl⟩ := hv.six
  have hpn : pl < (ns.map fun n => tJust (.ofInt n)).length := by simp; omega
  have hne : ics.flatten ≠ [] := by
    have hA2 := (RdTs_iff _ _ _ _).1 hps
    obtain ⟨c2, h1, h2⟩ := hA2.get hpn
    intro e
    have h3 := List.flatten_eq_nil_iff.1 e c2 (List.mem_of_getElem? h1)
    have h4 := h2.len
    rw [h3] at h4
    simp at h4
  obtain ⟨b, o, rfl, _, hcell⟩ := hA hne
  obtain ⟨cs, hr, hrange⟩ := RdTs_row hps hcell hpn
  have hg : (ns.map fun n => tJust (.ofInt n))[pl] = tJust (.ofInt (ns[pl]?.getD 0)) := by
    have : pl < ns.length := by omega
    simp [this]
  rw [hg] at hr
  simp only [tJust, RdT] at hr
  obtain ⟨vs2, K2, kc2, W2, wc2, A2, c2, X2, xc2, Z2, zc2, ics2, xcs2, rfl, hv2, _⟩ := hr
  simp only [RdV] at hv2
  obtain ⟨Y1, e1, Y2, e2, is, rfl, h1, h2, h3, _⟩ := hv2
  have hb : b < w0.heap.size := lt_of_cell (hrange 0 _ rfl)
  have hWb : ∀ B O, W = some ⟨B, O, none⟩ → B < sb := fun B O e => by
    obtain ⟨B2, O2, e2, hc2⟩ := hW.at_ (by intro e; rw [List.map_eq_nil_iff] at e; rw [e] at hp; simp at hp)
    rw [e] at e2
    cases e2
    cases hws : ws with
    | nil => rw [hws] at hp; simp at hp
    | cons x r => exact Nat.lt_of_lt_of_le (lt_of_cell (hc2 0 (I64 x) (by rw [hws]; rfl))) hsb
  have hmain := run_pick mk gb sb u l ws dv ds steps most (ns[pl]?.getD 0) W cw b o c pl ⟨#[]⟩ s k vn vb A1 B1 K X Z la c1 lb d1 0 kc 0 xc 0 zc Y1 Y2 e1 e2 (sv []) (.slice K2 0 kc2) (.slice W2 0 wc2) (.slice A2 0 c2) (.slice X2 0 xc2) (.slice Z2 0 zc2)
    (fun q W' => by simp only [RdV]; exact ⟨Y1, e1, Y2, e2, [], rfl, h1, h2, rfl, CellsFrom.nil _ _ _, CellsFrom.nil _ _ _⟩) w h hs hm hpl hu hl h0 hlt (hW.at_.ext hx) hWb hw hn (by omega) hp hd (by omega) (fun j v hj => hx.cell' (hrange j v hj))
  have hlen2 : (ns.map fun n => tJust (.ofInt n)).length = ws.length := by simp [hlen]
  rw [hlen2]
  refine Calls.mono hmain ?_
  rintro e w' ⟨rfl, h2, h3⟩
  exact ⟨⟨Y1, e1, Y2, e2, rfl⟩, h2, h3⟩
end Go.Proofs.YtmhdcnaibleihaaGreatDoor

/- A store in a region that draws its order: kept whole, and met by a law. -/
namespace Go.Proofs.YtmhdcnaibleihaaGreatDoor
set_option maxRecDepth 100000
open Go.RowKit
set_option linter.unusedVariables false
set_option linter.unusedSimpArgs false

/-- A store, under another name, that no rule opens. -/
def storeHid (ty : TypeId) (x y : Value) : Sem Unit := Instr.storeAt ty x y
theorem store_hide {ty : TypeId} {x y : Value} : Instr.storeAt ty x y = storeHid ty x y := rfl
/-- Some cells from place o on, put anew. -/
abbrev spliceV (cur : Array Value) (o : Nat) (cs : Array Value) : Array Value := (cur.toList.take (o + 0) ++ cs.toList ++ cur.toList.drop (o + 0 + cs.toList.length)).toArray
theorem upon_storeG {P : Program} {op : Oper} {a : Act} {W : World} {K : Act → World → Prop} {Q : Exit → Act → World → Prop} {ty t : TypeId} {v : Value} (B o : Nat) (cur cs : Array Value) (hb : Hid (Blk W B cur t)) (hv : v.cells = cs) (hi : (P.info? ty).map (·.size) = some cs.size) (hle : o + cs.size ≤ cur.size) (hd : op.dst = none)
    (h1 : ∀ u ∈ cs.toList, u.oneCell' = true) (h : ∀ w', Hid (Blk w' B (spliceV cur o cs) t) → Hid (Keeps (fun x => x = B) W w') → K (a.put op.dst undef) w') :
    op.upon P a K Q (((storeHid ty (.pointer (some ⟨B, o, none⟩)) v).run P W).andThen fun _ w' => .ok .skip w') := by
  obtain ⟨i, hq, hs⟩ := Option.map_eq_some_iff.1 hi
  have hst := run_storeCells_at (P := P) B o t cs.toList 0 cur W hb.out (by simp; omega) h1
  have hsz : (sizeOf ty).run P W = .ok cs.size W := by simp [sizeOf, typeInfo, hq, hs]
  have hrun : (storeHid ty (.pointer (some ⟨B, o, none⟩)) v).run P W = .ok () (W.setRow B (spliceV cur o cs)) := by
    unfold storeHid
    simp only [Instr.storeAt, Instr.sureAddr, storeVar, Sem.run_bind, Sem.run_pure, Result.andThen_ok, hsz, hv, ne_eq, not_true_eq_false, if_false, hst]
  rw [hrun]
  have := h _ (Lib.hid (hb.out.put _)) (Lib.hid (keeps_put W B _))
  simpa [Oper.upon, hd, Act.put] using this
end Go.Proofs.YtmhdcnaibleihaaGreatDoor

/- A number's copy. -/
namespace Go.Proofs.YtmhdcnaibleihaaGreatDoor
set_option maxRecDepth 100000
open Go.RowKit
set_option linter.unusedVariables false
set_option linter.unusedSimpArgs false

theorem info6P : (Tryz.prog.info? 37).map (fun i => (i.zero, i.size, i.bytes)) = some (some (.agg zero6a), 6, 88) := by kernel_rfl
set_option maxHeartbeats 1000000 in
theorem cloneV0 (A : Option Addr) (c : Nat) (w : World) :
    Calls Tryz.prog 71 #[.slice A 0 c] w fun e w' => (∃ A' c', e = .returned (.slice A' 0 c')) ∧ Ext w w' := by
  refine of_post fun R hR => ?_
  obtain ⟨i0, hi, hz0, hz1, hz2⟩ := info_parts info6P
  have heq := fun (W : World) (a : Option Addr) (n c : Nat) => Lib.run_eql_slice_nil (P := Tryz.prog) W 34 37 a n c 0 0 Tryz.underlying34
  cases A with
  | none =>
    go_enter Tryz.func71, Tryz.ntmps71
    go_wp2_with fail
    exact hR.out _ _ ⟨⟨none, 0, rfl⟩, Ext.refl' _⟩
  | some a =>
    have HO := Lib.hid (own_empty w 37 6)
    go_enter Tryz.func71, Tryz.ntmps71
    go_wp2_with (at_builtin; go_must (refine wpList_append_src _ rfl _ _ 34 rfl w.heap.size 37 i0 (.agg zero6a) 6 88 Tryz.underlying34 hi hz0 hz1 hz2 rfl (by decide) (.slice (some ⟨w.heap.size, 0, none⟩) 0 0) 0 [] rfl HO.out (some a) 0 c [] rfl rfl (CellsAt.nil _ _) (by simp) (by decide) (by decide) (by simp) ?_); intro u' w2 hO1 hG1 hB1; rw [Nat.zero_add, List.nil_append] at hO1; obtain ⟨A2, c2, rfl⟩ := own_form hO1; have HX := Lib.hid (ext_grown_from ((Ext.refl' w).alloc' _) hG1 (by intro k hk; simp [Value.ownBlock] at hk; omega)); clear hO1 hG1 hB1)
    exact hR.out _ _ ⟨⟨A2, c2, rfl⟩, HX.out⟩
set_option maxHeartbeats 1000000 in
theorem cloneS0 (A : Option Addr) (c : Nat) (w : World) :
    Calls Tryz.prog 32 #[.slice A 0 c] w fun e w' => (∃ A' c', e = .returned (.slice A' 0 c')) ∧ Ext w w' := by
  refine of_post fun R hR => ?_
  obtain ⟨i0, hi, hz0, hz1, hz2⟩ := info_parts infoStr
  have heq := fun (W : World) (a : Option Addr) (n c : Nat) => Lib.run_eql_slice_nil (P := Tryz.prog) W 35 9 a n c 0 0 Tryz.underlying35
  cases A with
  | none =>
    go_enter Tryz.func32, Tryz.ntmps32
    go_wp2_with fail
    exact hR.out _ _ ⟨⟨none, 0, rfl⟩, Ext.refl' _⟩
  | some a =>
    have HO := Lib.hid (own_empty w 9 1)
    go_enter Tryz.func32, Tryz.ntmps32
    go_wp2_with (at_builtin; go_must (refine wpList_append_src _ rfl _ _ 35 rfl w.heap.size 9 i0 (.string ⟨#[]⟩) 1 16 Tryz.underlying35 hi hz0 hz1 hz2 rfl (by decide) (.slice (some ⟨w.heap.size, 0, none⟩) 0 0) 0 [] rfl HO.out (some a) 0 c [] rfl rfl (CellsAt.nil _ _) (by simp) (by decide) (by decide) (by simp) ?_); intro u' w2 hO1 hG1 hB1; rw [Nat.zero_add, List.nil_append] at hO1; obtain ⟨A2, c2, rfl⟩ := own_form hO1; have HX := Lib.hid (ext_grown_from ((Ext.refl' w).alloc' _) hG1 (by intro k hk; simp [Value.ownBlock] at hk; omega)); clear hO1 hG1 hB1)
    exact hR.out _ _ ⟨⟨A2, c2, rfl⟩, HX.out⟩
theorem infoSV : (Tryz.prog.info? 34).map (·.size) = some 1 := by kernel_rfl
theorem infoSS : (Tryz.prog.info? 35).map (·.size) = some 1 := by kernel_rfl
theorem sto_hideV {x y : Value} : Instr.storeAt 34 x y = storeHid 34 x y := rfl
theorem sto_hideS {x y : Value} : Instr.storeAt 35 x y = storeHid 35 x y := rfl
attribute [local go_sem ↓ 2000] sto_hideV sto_hideS
set_option maxHeartbeats 4000000 in
theorem copyN (n : Int) (Y1 Y2 : Option Addr) (d1 d2 : Nat) (w : World) :
    Calls Tryz.prog 36 #[.agg #[.int .i64 2, .bool false, .int .i64 n, .string ⟨#[]⟩, .slice Y1 0 d1, .slice Y2 0 d2]] w fun e w' => (∃ Z1 e1 Z2 e2, e = .returned (.agg #[.int .i64 2, .bool false, .int .i64 n, .string ⟨#[]⟩, .slice Z1 0 e1, .slice Z2 0 e2])) ∧ Ext w w' := by
  refine of_post fun R hR => ?_
  have hb1 := Blk.new w #[.int .i64 2, .bool false, .int .i64 n, .string ⟨#[]⟩, .slice Y1 0 d1, .slice Y2 0 d2] 37
  have hx1 := ext_al w (.cells #[.int .i64 2, .bool false, .int .i64 n, .string ⟨#[]⟩, .slice Y1 0 d1, .slice Y2 0 d2] 37)
  have hs1 : (w.alloc (.cells #[.int .i64 2, .bool false, .int .i64 n, .string ⟨#[]⟩, .slice Y1 0 d1, .slice Y2 0 d2] 37)).heap.size = w.heap.size + 1 := World.size_alloc _ _
  generalize hw1 : w.alloc (.cells #[.int .i64 2, .bool false, .int .i64 n, .string ⟨#[]⟩, .slice Y1 0 d1, .slice Y2 0 d2] 37) = w1 at *
  have hb2 := Blk.new w1 zero6a 37
  have hx2 := ext_al w1 (.cells zero6a 37)
  have hs2 : (w1.alloc (.cells zero6a 37)).heap.size = w1.heap.size + 1 := World.size_alloc _ _
  rw [hs1] at hb2
  generalize hw2 : w1.alloc (.cells zero6a 37) = w2 at *
  have hb3 := Blk.new w2 #[.int .i64 2, .bool false, .int .i64 n, .string ⟨#[]⟩, .slice Y1 0 d1, .slice Y2 0 d2] 37
  have hx3 := ext_al w2 (.cells #[.int .i64 2, .bool false, .int .i64 n, .string ⟨#[]⟩, .slice Y1 0 d1, .slice Y2 0 d2] 37)
  rw [hs2, hs1] at hb3
  generalize hw3 : w2.alloc (.cells #[.int .i64 2, .bool false, .int .i64 n, .string ⟨#[]⟩, .slice Y1 0 d1, .slice Y2 0 d2] 37) = w3 at *
  have HW1 := Lib.hid hw1
  have HW2 := Lib.hid hw2
  have HW3 := Lib.hid hw3
  have HX := Lib.hid ((hx1.trans' hx2).trans' hx3)
  have HB1 := Lib.hid ((hb1.on hx2).on hx3)
  have HB2 := Lib.hid (hb2.on hx3)
  have HB3 := Lib.hid hb3
  clear hb1 hx1 hs1 hw1 hb2 hx2 hs2 hw2 hb3 hx3 hw3
  have HCV := Lib.hid cloneV0
  have HCS := Lib.hid cloneS0
  go_enter Tryz.func36, Tryz.ntmps36
  go_upto_region 2 with fail
  rw [HW1.out, HW2.out, HW3.out]
  have HK0 : Hid (∀ X, Keeps (fun b => b = w.heap.size + 1 + 1) w3 X → X.cell? ⟨w.heap.size, 4, none⟩ = some (.slice Y1 0 d1) ∧ X.cell? ⟨w.heap.size, 5, none⟩ = some (.slice Y2 0 d2)) := Lib.hid fun X hk => ⟨(HB1.out.keeps hk (by omega)).cell 4, (HB1.out.keeps hk (by omega)).cell 5⟩
  have hcd := HK0.out w3.drew (Keeps.of_ext ((Ext.refl' w3).drewN' 1))
  go_region_held3 (fun X => X.cell? ⟨w.heap.size, 4, none⟩ = some (.slice Y1 0 d1) ∧ X.cell? ⟨w.heap.size, 5, none⟩ = some (.slice Y2 0 d2)) (first | exact hcd | exact hce | exact hcf | exact hcg | exact hch | go_keep) ((first
    | (go_at_call 32; refine (HCS.out _ _ _).mono ?_; rintro e w4 ⟨⟨Z2, e2, rfl⟩, hx⟩; have HX4 := Lib.hid (((Ext.refl' w3).drewN' 1).trans' hx); have hce := HK0.out w4 (Keeps.of_ext HX4.out); clear hx)
    | (go_at_call 71; refine (HCV.out _ _ _).mono ?_; rintro e w5 ⟨⟨Z1, e1, rfl⟩, hx⟩; have HX5 := Lib.hid (HX4.out.trans' hx); have HB35 := Lib.hid (HB3.out.on HX5.out); have hcf := HK0.out w5 (Keeps.of_ext HX5.out); clear hx)
    | (refine upon_storeG _ 5 _ #[.slice Z2 0 e2] HB35 rfl infoSS (by simp) rfl (by simp [Value.oneCell']) ?_; intro w6 HB36 HK6; have hcg := HK0.out w6 ((Keeps.of_ext HX5.out).trans HK6.out))
    | (refine upon_storeG _ 4 _ #[.slice Z1 0 e1] HB36 rfl infoSV (by simp) rfl (by simp [Value.oneCell']) ?_; intro w7 HB37 HK7; have hch := HK0.out w7 (((Keeps.of_ext HX5.out).trans HK6.out).trans HK7.out))))
  all_goals
    have HB7 : Hid (Blk w7 (w.heap.size + 1 + 1) #[.int .i64 2, .bool false, .int .i64 n, .string ⟨#[]⟩, .slice Z1 0 e1, .slice Z2 0 e2] 37) := Lib.hid HB37.out
    have HB27 : Hid (Blk w7 (w.heap.size + 1) zero6a 37) := Lib.hid (((HB2.out.on HX5.out).keeps HK6.out (by omega)).keeps HK7.out (by omega))
    have HX7 : Hid (Keeps (fun b => b = w.heap.size + 1 + 1) w w7) := Lib.hid (((Keeps.of_ext (HX.out.trans' HX5.out)).trans HK6.out).trans HK7.out)
    have hc7 := HB7.out.cell
    go_wp2_with fail
    go_loopw [17] (fun iv wr => iv = .int .i64 0 ∧ wr = w7) (fun _ _ => 0)
    case atStart => exact ⟨rfl, rfl⟩
    case round =>
      obtain ⟨rfl, rfl⟩ := hrel
      go_wp2_with (first
        | (refine wpList_load_mid rfl 37 _ rfl (w.heap.size + 1 + 1) 0 rfl ([.int .i64 2, .bool false, .int .i64 n, .string ⟨#[]⟩, .slice Z1 0 e1, .slice Z2 0 e2] : List Value) _ (HB7.out.range _ 0 (fun j v hj => by rw [Nat.add_comm]; have := (List.getElem?_eq_some_iff.1 hj).1; simpa using hj)) Tryz.underlying37 rfl info6p ?_)
        | (refine wpList_store_blk rfl 37 _ _ rfl rfl (w.heap.size + 1) zero6a _ 37 HB27.out rfl rfl info6p rfl (by simp [Value.oneCell']) ?_; intro w9 HB9 HK9))
      refine bodyPost_ret (results_cell Tryz.results36 HB9.out rfl _ Tryz.underlying37 rfl info6p) rfl (hR.out _ _ ⟨⟨Z1, e1, Z2, e2, rfl⟩, ?_⟩)
      exact ((HX7.out.mono (S' := fun b => w.heap.size ≤ b) fun x hx e => by have h1 : x = w.heap.size + 1 + 1 := e; omega).trans (HK9.out.mono fun x hx e => by have h1 : x = w.heap.size + 1 := e; show w.heap.size ≤ x; omega)).ext fun k hk e => by have h1 : w.heap.size ≤ k := e; omega
end Go.Proofs.YtmhdcnaibleihaaGreatDoor
