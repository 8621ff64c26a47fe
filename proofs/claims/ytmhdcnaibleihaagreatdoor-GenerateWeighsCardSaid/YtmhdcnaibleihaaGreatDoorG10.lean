/- A run: a number. -/
import Derived.Test.YtmhdcnaibleihaaGreatDoorG09
import Derived.Test.YtmhdcnaibleihaaGreatDoorG08

namespace Go.Proofs.YtmhdcnaibleihaaGreatDoor
set_option maxRecDepth 100000
open Go.RowKit
set_option linter.unusedVariables false
set_option linter.unusedSimpArgs false

abbrev envZ : Array Value := #[.int .i64 0, .bool false, .int .i64 0, .string ⟨#[]⟩, .slice none 0 0, .slice none 0 0, .slice none 0 0, .slice none 0 0]
abbrev zero6a : Array Value := #[.int .i64 0, .bool false, .int .i64 0, .string ⟨#[]⟩, .slice none 0 0, .slice none 0 0]
theorem Mac.keeps {S : Nat → Prop} {w w' : World} {mk gb sb u : Nat} {l : List Int} {dv : Value} {ds : List Int} {steps most : Nat} (h : Mac w mk gb sb u l dv ds steps most) (hk : Keeps S w w') (hs : ∀ b, b ≤ mk → ¬ S b) (hd : ∀ b, dv.ownBlock = some b → ¬ S b) : Mac w' mk gb sb u l dv ds steps most :=
  ⟨h.blk.keeps hk (hs _ (Nat.le_refl _)), hk.own h.own hd, h.src.keeps hk (fun b hb => hs b (by have := h.lt; omega)), h.lt⟩
theorem Mac.step {w : World} {mk gb sb u : Nat} {l : List Int} {dv : Value} {ds : List Int} {steps most : Nat} (h : Mac w mk gb sb u l dv ds steps most) : Mac (w.setCell ⟨mk, 3, none⟩ (.int .i64 ((steps : Int) + 1))) mk gb sb u l dv ds (steps + 1) most := by
  have hk := Keeps.set w ⟨mk, 3, none⟩ (.int .i64 ((steps : Int) + 1))
  exact ⟨h.blk.set (i := 3) _, hk.own h.own (fun g hg e => by have h1 := (h.own.lt g hg).1; have h2 : g = mk := e; omega), h.src.keeps hk (fun b hb e => by have h1 : b = mk := e; have := h.lt; omega), h.lt⟩
/-- An integer's cells, wherever they lie. -/
theorem rdV_cells {p : Nat → Prop} {w : World} {n : Int} {cs : List Value} (h : RdV p w (.ofInt n) cs) : ∃ y1 y2, cs = ([.int .i64 2, .bool false, .int .i64 n, .string ⟨#[]⟩, y1, y2] : List Value) ∧ ∀ q W, RdV q W (.ofInt n) ([.int .i64 2, .bool false, .int .i64 n, .string ⟨#[]⟩, y1, y2] : List Value) := by
  simp only [RdV] at h
  obtain ⟨A, c, B, d, ics, rfl, h1, h2, h3, _, _⟩ := h
  refine ⟨.slice A 0 c, .slice B 0 d, rfl, fun q W => ?_⟩
  simp only [RdV]
  exact ⟨A, c, B, d, [], rfl, h1, h2, rfl, CellsFrom.nil _ _ _, CellsFrom.nil _ _ _⟩
/-- A number's cells. -/
theorem rdT_cells {p : Nat → Prop} {w : World} {n : Int} {cs : List Value} (h : RdT p w (tJust (.ofInt n)) cs) : ∃ nm y1 y2 y3 y4 y5 y6 y7, cs = #[.int .i64 0, nm, .int .i64 2, .bool false, .int .i64 n, .string ⟨#[]⟩, y1, y2, y3, y4, y5, y6, y7].toList ∧ ∀ q W, RdV q W (.ofInt n) ([.int .i64 2, .bool false, .int .i64 n, .string ⟨#[]⟩, y1, y2] : List Value) := by
  simp only [tJust, RdT] at h
  obtain ⟨vs, K, kc, W, wc, A, c, X, xc, Z, zc, ics, xcs, rfl, hv, _⟩ := h
  obtain ⟨y1, y2, rfl, hq⟩ := rdV_cells hv
  exact ⟨_, y1, y2, _, _, _, _, _, rfl, hq⟩
set_option maxHeartbeats 4000000 in
theorem run_just (mk gb sb u : Nat) (l : List Int) (dv : Value) (ds : List Int) (steps most : Nat) (n : Int) (nm y1 y2 y3 y4 y5 y6 y7 : Value) (hv : ∀ q W, RdV q W (.ofInt n) ([.int .i64 2, .bool false, .int .i64 n, .string ⟨#[]⟩, y1, y2] : List Value)) (w : World) (h : Mac w mk gb sb u l dv ds steps most) (hs : steps < most) (hm : most ≤ 65536) :
    Calls Tryz.prog 35 #[.pointer (some ⟨mk, 0, none⟩), .agg #[.int .i64 0, nm, .int .i64 2, .bool false, .int .i64 n, .string ⟨#[]⟩, y1, y2, y3, y4, y5, y6, y7], .agg envZ] w fun e w' => e = .returned (.agg ([.int .i64 2, .bool false, .int .i64 n, .string ⟨#[]⟩, y1, y2] : List Value).toArray) ∧ Keeps (fun b => b = mk) w w' ∧ Mac w' mk gb sb u l dv ds (steps + 1) most := by
  refine of_post fun R hR => ?_
  have hx1 := ext_al w (.cells #[.int .i64 0, nm, .int .i64 2, .bool false, .int .i64 n, .string ⟨#[]⟩, y1, y2, y3, y4, y5, y6, y7] 61)
  have hb1 := Blk.new w #[.int .i64 0, nm, .int .i64 2, .bool false, .int .i64 n, .string ⟨#[]⟩, y1, y2, y3, y4, y5, y6, y7] 61
  have hs1 : (w.alloc (.cells #[.int .i64 0, nm, .int .i64 2, .bool false, .int .i64 n, .string ⟨#[]⟩, y1, y2, y3, y4, y5, y6, y7] 61)).heap.size = w.heap.size + 1 := World.size_alloc _ _
  have hmk := h.blk.lt
  have HOL : Hid (∀ b, dv.ownBlock = some b → b < w.heap.size) := Lib.hid fun b hb => (h.own.lt b hb).2
  generalize hw1 : w.alloc (.cells #[.int .i64 0, nm, .int .i64 2, .bool false, .int .i64 n, .string ⟨#[]⟩, y1, y2, y3, y4, y5, y6, y7] 61) = w1 at *
  have hx2 := ext_al w1 (.cells envZ 104)
  have hs2 : (w1.alloc (.cells envZ 104)).heap.size = w1.heap.size + 1 := World.size_alloc _ _
  generalize hw2 : w1.alloc (.cells envZ 104) = w2 at *
  have hm3 := madeK (S := fun b => b = mk) w2 zero6a 37 (by rintro b rfl; omega)
  have hx3 := ext_al w2 (.cells zero6a 37)
  generalize hw3 : w2.alloc (.cells zero6a 37) = w3 at *
  have HW1 := Lib.hid hw1
  have HW2 := Lib.hid hw2
  have HW3 := Lib.hid hw3
  have HSZ : Hid (w1.heap.size = w.heap.size + 1 ∧ w2.heap.size = w.heap.size + 2 ∧ mk < w.heap.size) := Lib.hid ⟨hs1, by omega, hmk⟩
  have HX := Lib.hid ((hx1.trans' hx2).trans' hx3)
  have HXA := Lib.hid (hx1.trans' hx2)
  have HB := Lib.hid ((hb1.on hx2).on hx3)
  have HM := Lib.hid hm3
  have HC := Lib.hid (h.on ((hx1.trans' hx2).trans' hx3))
  have k1 : ((steps : Int) == (most : Int)) = false := by simp; omega
  have k2 : (steps : Int) + 1 ≤ 65536 := by omega
  clear h hx1 hb1 hs1 hmk hw1 hx2 hs2 hw2 hm3 hx3 hw3
  go_enter Tryz.func35, Tryz.ntmps35
  go_upto_region 1 with fail
  rw [HW1.out, HW2.out, HW3.out]
  have hcm := HC.out.blk.cell
  go_upto_region 3 with fail
  go_cut [25] (fun s wx => s = .bool false ∧ Hid (Ext w3 wx))
  case first =>
    go_region
    all_goals
      go_wp2_with fail
      go_meet
      exact ⟨rfl, Lib.hid ((Ext.refl' _).drewN' 1)⟩
  obtain ⟨rfl, HXC⟩ := hcut
  have HC2 := Lib.hid (HC.out.on HXC.out)
  have HB2 := Lib.hid (HB.out.on HXC.out)
  have HM2 := Lib.hid (HM.out.on HXC.out)
  have hcm2 := HC2.out.blk.cell
  have hfm2 := HC2.out.blk.frozen
  clear hcm HC HB HM
  go_upto_region 6 with fail
  have HC5 := Lib.hid HC2.out.step
  have HM5 := Lib.hid (HM2.out.keep (Keeps.set wc ⟨mk, 3, none⟩ (.int .i64 ((steps : Int) + 1))))
  have HB5 := Lib.hid (HB2.out.keeps (Keeps.set wc ⟨mk, 3, none⟩ (.int .i64 ((steps : Int) + 1))) (by have := HSZ.out; show ¬ w.heap.size = mk; omega))
  obtain ⟨w5, hw5⟩ : ∃ w5, wc.setCell ⟨mk, 3, none⟩ (.int .i64 ((steps : Int) + 1)) = w5 := ⟨_, rfl⟩
  rw [hw5] at HC5 HM5 HB5 ⊢
  have hcb := HB5.out.cell
  clear hw5 hcm2 hfm2
  have hpt : (Value.pointer (some ⟨w.heap.size + 1 + 1, 0, none⟩)) = .pointer (some ⟨w2.heap.size, 0, none⟩) := by rw [HSZ.out.2.1]
  rw [hpt]
  clear hpt
  go_wp2_with (first
    | (refine wpList_load_mid rfl 37 _ rfl w.heap.size 2 rfl ([.int .i64 2, .bool false, .int .i64 n, .string ⟨#[]⟩, y1, y2] : List Value) _ (HB5.out.range _ 2 (fun j v hj => by rw [Nat.add_comm]; have := (List.getElem?_eq_some_iff.1 hj).1; simpa using hj)) Tryz.underlying37 rfl info6p ?_)
    | (refine wpList_answerK (kV (.ofInt n)) rfl 37 _ _ rfl rfl HM5 rfl info6p (Lib.hid (hv (fun _ => False) _)) (Lib.hid (fun _ h => h.elim)) rfl rfl ?_; intro w9 HG HK))
  refine GivenK.fin HG Tryz.results35 rfl _ Tryz.underlying37 rfl info6p rfl fun h9 => hR.out _ _ ⟨rfl, (Keeps.of_ext HXA.out).trans h9.2, HC5.out.keeps HK.out (fun b hb e => by have h1 : b = w2.heap.size := e; have := HSZ.out; omega) (fun b hb e => by have h1 : b = w2.heap.size := e; have := HOL.out b hb; have := HSZ.out; omega)⟩
end Go.Proofs.YtmhdcnaibleihaaGreatDoor

/- A run: a pick of numbers. -/
namespace Go.Proofs.YtmhdcnaibleihaaGreatDoor
set_option maxRecDepth 100000
open Go.RowKit
set_option linter.unusedVariables false
set_option linter.unusedSimpArgs false

/-- A store of a value, under another name, that no rule opens. -/
def stoHid (x y : Value) : Sem Unit := Instr.storeAt 37 x y
theorem upon_sto {o : Oper} {a : Act} {W : World} {K : Act → World → Prop} {Q : Exit → Act → World → Prop} (B : Nat) (z cs : Array Value) (hb : Hid (Blk W B z 37)) (hz : z.size = 6) (hc : cs.size = 6) (hd : o.dst = none)
    (h1 : ∀ u ∈ cs.toList, u.oneCell' = true) (h : ∀ w', Hid (Blk w' B cs 37) → Hid (Keeps (fun x => x = B) W w') → K (a.put o.dst undef) w') :
    o.upon Tryz.prog a K Q (((stoHid (.pointer (some ⟨B, 0, none⟩)) (.agg cs)).run Tryz.prog W).andThen fun _ w' => .ok .skip w') := by
  obtain ⟨i, hq, hs⟩ := Option.map_eq_some_iff.1 info6p
  have hst := run_storeCells_at (P := Tryz.prog) B 0 37 cs.toList 0 z W hb.out (by simp [hz, hc]) h1
  have e : (z.toList.take (0 + 0) ++ cs.toList ++ z.toList.drop (0 + 0 + cs.toList.length)).toArray = cs := by
    have hd : List.drop cs.size z.toList = [] := List.drop_of_length_le (by simp [hz, hc])
    simp [hd]
  rw [e] at hst
  have hsz : (sizeOf 37).run Tryz.prog W = .ok 6 W := by simp [sizeOf, typeInfo, hq, hs]
  have hcc : (Value.agg cs).cells = cs := rfl
  have hrun : (stoHid (.pointer (some ⟨B, 0, none⟩)) (.agg cs)).run Tryz.prog W = .ok () (W.setRow B cs) := by
    unfold stoHid
    simp only [Instr.storeAt, Instr.sureAddr, storeVar, Sem.run_bind, Sem.run_pure, Result.andThen_ok, hsz, hcc, hc, ne_eq, not_true_eq_false, if_false, hst]
  rw [hrun]
  have := h _ (Lib.hid (hb.out.put cs)) (Lib.hid (keeps_put W B cs))
  simpa [Oper.upon, hd, Act.put] using this
theorem sto_hide {x y : Value} : Instr.storeAt 37 x y = stoHid x y := rfl

attribute [local go_sem ↓ 2000] sto_hide
set_option maxHeartbeats 8000000 in
theorem run_pick (mk gb sb u : Nat) (l ws : List Int) (dv : Value) (ds : List Int) (steps most : Nat) (n : Int) (W : Option Addr) (cw b o pc pl : Nat) (x1 x5 : ByteArray) (x2 x4 : Int) (x3 : Bool) (x6 x9 z3 z6 z9 : Option Addr) (x7 x8 z1 z2 z4 z5 z7 z8 q1 q2 : Nat) (Y1 Y2 : Option Addr) (d1 d2 : Nat) (nm y3 y4 y5 y6 y7 : Value)
    (hv : ∀ q W, RdV q W (.ofInt n) ([.int .i64 2, .bool false, .int .i64 n, .string ⟨#[]⟩, .slice Y1 0 d1, .slice Y2 0 d2] : List Value)) (w : World) (h : Mac w mk gb sb u l dv ds steps most) (hs : steps + 1 < most) (hm : most ≤ 65536) (hpl : pl = placeL ws (l[u]?.getD 0)) (hu : u < l.length) (hl : l.length ≤ 10000) (h0 : 0 ≤ l[u]) (hlt : l[u] < sumL ws)
    (hcw : CellsAt w W (ws.map I64)) (hwb : ∀ B O, W = some ⟨B, O, none⟩ → B < sb) (hw : ∀ n ∈ ws, 1 ≤ n ∧ n ≤ 1000) (hn : ws.length ≤ 64) (hpos : 0 < ws.length) (hp : pl < ws.length) (hd : ds.length ≤ 1000)
    (hbs : b < sb) (hpart : w.rangeAt b (o + pl * 13) [.int .i64 0, nm, .int .i64 2, .bool false, .int .i64 n, .string ⟨#[]⟩, .slice Y1 0 d1, .slice Y2 0 d2, y3, y4, y5, y6, y7]) :
    Calls Tryz.prog 35 #[.pointer (some ⟨mk, 0, none⟩), .agg #[.int .i64 2, .string x1, .int .i64 x2, .bool x3, .int .i64 x4, .string x5, .slice x6 x7 x8, .slice x9 z1 z2, .slice z3 z4 z5, .slice W ws.length cw, .slice (some ⟨b, o, none⟩) ws.length pc, .slice z6 z7 z8, .slice z9 q1 q2], .agg envZ] w fun e w' => e = .returned (.agg (([.int .i64 2, .bool false, .int .i64 n, .string ⟨#[]⟩, .slice Y1 0 d1, .slice Y2 0 d2] : List Value)).toArray) ∧ Keeps (KD mk sb dv) w w' ∧ ∃ dv', Grew w dv dv' ∧ Mac w' mk gb sb (u + 1) l dv' (ds ++ [(pl : Int)]) (steps + 2) most := by
  refine of_post fun R hR => ?_
  have hx1 := ext_al w (.cells #[.int .i64 2, .string x1, .int .i64 x2, .bool x3, .int .i64 x4, .string x5, .slice x6 x7 x8, .slice x9 z1 z2, .slice z3 z4 z5, .slice W ws.length cw, .slice (some ⟨b, o, none⟩) ws.length pc, .slice z6 z7 z8, .slice z9 q1 q2] 61)
  have hb1 := Blk.new w #[.int .i64 2, .string x1, .int .i64 x2, .bool x3, .int .i64 x4, .string x5, .slice x6 x7 x8, .slice x9 z1 z2, .slice z3 z4 z5, .slice W ws.length cw, .slice (some ⟨b, o, none⟩) ws.length pc, .slice z6 z7 z8, .slice z9 q1 q2] 61
  have hs1 : (w.alloc (.cells #[.int .i64 2, .string x1, .int .i64 x2, .bool x3, .int .i64 x4, .string x5, .slice x6 x7 x8, .slice x9 z1 z2, .slice z3 z4 z5, .slice W ws.length cw, .slice (some ⟨b, o, none⟩) ws.length pc, .slice z6 z7 z8, .slice z9 q1 q2] 61)).heap.size = w.heap.size + 1 := World.size_alloc _ _
  have hmk := h.blk.lt
  have HOL : Hid (∀ b, dv.ownBlock = some b → b < w.heap.size ∧ mk < b) := Lib.hid fun b hb => ⟨(h.own.lt b hb).2, (h.own.lt b hb).1⟩
  generalize hw1 : w.alloc (.cells #[.int .i64 2, .string x1, .int .i64 x2, .bool x3, .int .i64 x4, .string x5, .slice x6 x7 x8, .slice x9 z1 z2, .slice z3 z4 z5, .slice W ws.length cw, .slice (some ⟨b, o, none⟩) ws.length pc, .slice z6 z7 z8, .slice z9 q1 q2] 61) = w1 at *
  have hx2 := ext_al w1 (.cells envZ 104)
  have hb2 := Blk.new w1 envZ 104
  have hs2 : (w1.alloc (.cells envZ 104)).heap.size = w1.heap.size + 1 := World.size_alloc _ _
  rw [hs1] at hb2
  generalize hw2 : w1.alloc (.cells envZ 104) = w2 at *
  have hx3 := ext_al w2 (.cells zero6a 37)
  have hb3 := Blk.new w2 zero6a 37
  generalize hw3 : w2.alloc (.cells zero6a 37) = w3 at *
  have HW1 := Lib.hid hw1
  have HW2 := Lib.hid hw2
  have HW3 := Lib.hid hw3
  have HSZ : Hid (w1.heap.size = w.heap.size + 1 ∧ w2.heap.size = w.heap.size + 2 ∧ mk < w.heap.size) := Lib.hid ⟨hs1, by omega, hmk⟩
  have HX := Lib.hid ((hx1.trans' hx2).trans' hx3)
  have HXA := Lib.hid (hx1.trans' hx2)
  have HB := Lib.hid ((hb1.on hx2).on hx3)
  have HE := Lib.hid (hb2.on hx3)
  have HR3 := Lib.hid hb3
  have HC := Lib.hid (h.on ((hx1.trans' hx2).trans' hx3))
  have HCW := Lib.hid hcw
  have HWB := Lib.hid hwb
  clear hwb
  have HPT := Lib.hid hpart
  have k1 : ((steps : Int) == (most : Int)) = false := by simp; omega
  have k2 : (steps : Int) + 1 ≤ 65536 := by omega
  have HLT := Lib.hid h.lt
  have HPL := Lib.hid hpl
  have HBS : Hid (b < sb ∧ sb < mk) := Lib.hid ⟨hbs, h.lt⟩
  have HPP := Lib.hid hp
  clear hp hpl
  clear h hx1 hb1 hs1 hmk hw1 hx2 hs2 hw2 hx3 hw3 hb2 hb3 hcw hpart
  go_enter Tryz.func35, Tryz.ntmps35
  go_upto_region 1 with fail
  rw [HW1.out, HW2.out, HW3.out]
  have hcm := HC.out.blk.cell
  go_upto_region 3 with fail
  go_cut [25] (fun s wx => s = .bool false ∧ Hid (Ext w3 wx))
  case first =>
    go_region
    all_goals
      go_wp2_with fail
      go_meet
      exact ⟨rfl, Lib.hid ((Ext.refl' _).drewN' 1)⟩
  obtain ⟨rfl, HXC⟩ := hcut
  have HC2 := Lib.hid (HC.out.on HXC.out)
  have HB2 := Lib.hid (HB.out.on HXC.out)
  have hcm2 := HC2.out.blk.cell
  have hfm2 := HC2.out.blk.frozen
  clear hcm HC HB
  go_upto_region 6 with fail
  have HC5 := Lib.hid HC2.out.step
  have HKS := Lib.hid (Keeps.set wc ⟨mk, 3, none⟩ (.int .i64 ((steps : Int) + 1)))
  obtain ⟨w5, hw5⟩ : ∃ w5, wc.setCell ⟨mk, 3, none⟩ (.int .i64 ((steps : Int) + 1)) = w5 := ⟨_, rfl⟩
  rw [hw5] at HC5 HKS ⊢
  clear hw5 hcm2 hfm2
  have HK5 : Hid (Keeps (fun x => x = mk) w w5) := Lib.hid ((Keeps.of_ext (HX.out.trans' HXC.out)).trans HKS.out)
  have HS : Hid (∀ X, Keeps (fun x => KD mk sb dv x ∨ x = w.heap.size + 1 + 1) w5 X → X.cell? ⟨w.heap.size, 10, none⟩ = some (.slice (some ⟨b, o, none⟩) ws.length pc) ∧ X.cell? ⟨w.heap.size, 9, none⟩ = some (.slice W ws.length cw) ∧ X.cell? ⟨b, o + pl * 13, none⟩ = some (.int .i64 0) ∧ X.cell? ⟨b, o + pl * 13 + 1, none⟩ = some (nm) ∧ X.cell? ⟨b, o + pl * 13 + 2, none⟩ = some (.int .i64 2) ∧ X.cell? ⟨b, o + pl * 13 + 3, none⟩ = some (.bool false) ∧ X.cell? ⟨b, o + pl * 13 + 4, none⟩ = some (.int .i64 n) ∧ X.cell? ⟨b, o + pl * 13 + 5, none⟩ = some (.string ⟨#[]⟩) ∧ X.cell? ⟨b, o + pl * 13 + 6, none⟩ = some (.slice Y1 0 d1) ∧ X.cell? ⟨b, o + pl * 13 + 7, none⟩ = some (.slice Y2 0 d2) ∧ X.cell? ⟨b, o + pl * 13 + 8, none⟩ = some (y3) ∧ X.cell? ⟨b, o + pl * 13 + 9, none⟩ = some (y4) ∧ X.cell? ⟨b, o + pl * 13 + 10, none⟩ = some (y5) ∧ X.cell? ⟨b, o + pl * 13 + 11, none⟩ = some (y6) ∧ X.cell? ⟨b, o + pl * 13 + 12, none⟩ = some (y7) ∧ X.cell? ⟨w.heap.size + 1, 0, none⟩ = some (.int .i64 0) ∧ X.cell? ⟨w.heap.size + 1, 1, none⟩ = some (.bool false) ∧ X.cell? ⟨w.heap.size + 1, 2, none⟩ = some (.int .i64 0) ∧ X.cell? ⟨w.heap.size + 1, 3, none⟩ = some (.string ⟨#[]⟩) ∧ X.cell? ⟨w.heap.size + 1, 4, none⟩ = some (.slice none 0 0) ∧ X.cell? ⟨w.heap.size + 1, 5, none⟩ = some (.slice none 0 0) ∧ X.cell? ⟨w.heap.size + 1, 6, none⟩ = some (.slice none 0 0) ∧ X.cell? ⟨w.heap.size + 1, 7, none⟩ = some (.slice none 0 0)) := Lib.hid fun X hk => by
    have hsz := HSZ.out
    have hlt := HLT.out
    have hn0 : ∀ x, w.heap.size ≤ x → x ≤ w.heap.size + 1 → ¬ (KD mk sb dv x ∨ x = w.heap.size + 1 + 1) := fun x hx hx2 e => by
      rcases e with (e | e | e) | e
      · omega
      · omega
      · have := (HOL.out x e).1; omega
      · omega
    have hB := (((HB2.out.keeps HKS.out (by show ¬ w.heap.size = mk; omega)).keeps hk (hn0 _ (by omega) (by omega))).cell)
    have hE := (((HE.out.on HXC.out).keeps HKS.out (by show ¬ w.heap.size + 1 = mk; omega)).keeps hk (hn0 _ (by omega) (by omega))).cell
    have hP : ∀ j v, [.int .i64 0, nm, .int .i64 2, .bool false, .int .i64 n, .string ⟨#[]⟩, .slice Y1 0 d1, .slice Y2 0 d2, y3, y4, y5, y6, y7][j]? = some v → X.cell? ⟨b, o + pl * 13 + j, none⟩ = some v := fun j v hj => hk.cell (by
      show ¬ (KD mk sb dv b ∨ b = w.heap.size + 1 + 1)
      intro e
      rcases e with (e | e | e) | e
      · have h1 : b = sb := e; have := HBS.out; omega
      · have h1 : b = mk := e; have := HBS.out; omega
      · have h1 := (HOL.out b e).2; have := HBS.out; omega
      · have := HBS.out; have := HSZ.out; omega) (HK5.out.cell (by show ¬ b = mk; have := HBS.out; omega) (HPT.out j v hj))
    exact ⟨hB 10, hB 9, hP 0 _ rfl, hP 1 _ rfl, hP 2 _ rfl, hP 3 _ rfl, hP 4 _ rfl, hP 5 _ rfl, hP 6 _ rfl, hP 7 _ rfl, hP 8 _ rfl, hP 9 _ rfl, hP 10 _ rfl, hP 11 _ rfl, hP 12 _ rfl, hE 0, hE 1, hE 2, hE 3, hE 4, hE 5, hE 6, hE 7⟩
  have HAZ : Hid (∀ X, Keeps (KD mk sb dv) w5 X → Blk X (w.heap.size + 1 + 1) zero6a 37) := Lib.hid fun X hk => by
    have hsz := HSZ.out
    have hA0 := (((HR3.out.on HXC.out).keeps HKS.out (by show ¬ w2.heap.size = mk; omega)).keeps hk (fun e => by
      rcases e with e | e | e
      · have h1 : w2.heap.size = sb := e; have := HBS.out; omega
      · have h1 : w2.heap.size = mk := e; omega
      · have := (HOL.out _ e).1; omega))
    rw [hsz.2.1] at hA0
    exact hA0
  have HCW5 : Hid (CellsAt w5 W (ws.map I64)) := Lib.hid fun hne => by
    obtain ⟨B, O, e, hcell⟩ := HCW.out hne
    exact ⟨B, O, e, fun k v hv => HK5.out.cell (by show ¬ B = mk; have := HWB.out B O e; have := HBS.out; omega) (hcell k v hv)⟩
  have HCH := Lib.hid (fun (X : World) (hx : Ext w5 X) => chooseM mk gb sb u l ws W cw dv ds (steps + 1) most X (HC5.out.on hx) hu hl h0 hlt ((HCW5.out).ext hx) hw hn hpos (by have h1 := HPP.out; rw [HPL.out] at h1; simpa [hu] using h1) hd)
  have HPE : Hid (placeL ws l[u] = pl) := Lib.hid (by rw [HPL.out]; simp [hu])
  rw [HPE.out] at HCH
  have HRN := Lib.hid (fun (X : World) (dv' : Value) (hm' : Mac X mk gb sb (u + 1) l dv' (ds ++ [(pl : Int)]) (steps + 1) most) => run_just mk gb sb (u + 1) l dv' (ds ++ [(pl : Int)]) (steps + 1) most n nm (.slice Y1 0 d1) (.slice Y2 0 d2) y3 y4 y5 y6 y7 hv X hm' hs hm)
  have hcd := HS.out w5.drew (Keeps.of_ext ((Ext.refl' w5).drewN' 1))
  have kp := HPP.out
  have kp1 : (pl : Int) < ws.length := by omega
  clear hlt h0 hw hpos
  have hcb := (HB2.out.keeps HKS.out (by have := HSZ.out; show ¬ w.heap.size = mk; omega)).cell
  go_upto_region 15 with fail
  clear hcb
  go_region_held3 (fun X => X.cell? ⟨w.heap.size, 10, none⟩ = some (.slice (some ⟨b, o, none⟩) ws.length pc) ∧ X.cell? ⟨w.heap.size, 9, none⟩ = some (.slice W ws.length cw) ∧ X.cell? ⟨b, o + pl * 13, none⟩ = some (.int .i64 0) ∧ X.cell? ⟨b, o + pl * 13 + 1, none⟩ = some (nm) ∧ X.cell? ⟨b, o + pl * 13 + 2, none⟩ = some (.int .i64 2) ∧ X.cell? ⟨b, o + pl * 13 + 3, none⟩ = some (.bool false) ∧ X.cell? ⟨b, o + pl * 13 + 4, none⟩ = some (.int .i64 n) ∧ X.cell? ⟨b, o + pl * 13 + 5, none⟩ = some (.string ⟨#[]⟩) ∧ X.cell? ⟨b, o + pl * 13 + 6, none⟩ = some (.slice Y1 0 d1) ∧ X.cell? ⟨b, o + pl * 13 + 7, none⟩ = some (.slice Y2 0 d2) ∧ X.cell? ⟨b, o + pl * 13 + 8, none⟩ = some (y3) ∧ X.cell? ⟨b, o + pl * 13 + 9, none⟩ = some (y4) ∧ X.cell? ⟨b, o + pl * 13 + 10, none⟩ = some (y5) ∧ X.cell? ⟨b, o + pl * 13 + 11, none⟩ = some (y6) ∧ X.cell? ⟨b, o + pl * 13 + 12, none⟩ = some (y7) ∧ X.cell? ⟨w.heap.size + 1, 0, none⟩ = some (.int .i64 0) ∧ X.cell? ⟨w.heap.size + 1, 1, none⟩ = some (.bool false) ∧ X.cell? ⟨w.heap.size + 1, 2, none⟩ = some (.int .i64 0) ∧ X.cell? ⟨w.heap.size + 1, 3, none⟩ = some (.string ⟨#[]⟩) ∧ X.cell? ⟨w.heap.size + 1, 4, none⟩ = some (.slice none 0 0) ∧ X.cell? ⟨w.heap.size + 1, 5, none⟩ = some (.slice none 0 0) ∧ X.cell? ⟨w.heap.size + 1, 6, none⟩ = some (.slice none 0 0) ∧ X.cell? ⟨w.heap.size + 1, 7, none⟩ = some (.slice none 0 0)) (first | exact hcd | exact hce | exact hcf | exact hcg | go_keep) ((first
    | (go_at_call 63; refine (HCH.out _ ((Ext.refl' _).drewN' 1)).mono ?_; rintro e w6 ⟨rfl, hk, dv', hg, hm6⟩; have HK6 := Lib.hid ((Keeps.of_ext ((Ext.refl' w5).drewN' 1)).trans hk); have HG6 := Lib.hid hg; have HM6 := Lib.hid hm6; have hce := HS.out w6 (HK6.out.mono fun x _ e => .inl e); clear hk hg hm6)
    | (go_at_call 35; refine (HRN.out _ _ HM6.out).mono ?_; rintro e w7 ⟨rfl, hk, hm7⟩; have HK7 := Lib.hid (HK6.out.trans (hk.mono fun x _ e => .inr (.inl e))); have HM7 := Lib.hid hm7; have hcf := HS.out w7 (HK7.out.mono fun x _ e => .inl e); clear hk hm7)
    | (refine upon_sto _ zero6a _ (Lib.hid (HAZ.out w7 HK7.out)) rfl rfl rfl (by simp [Value.oneCell']) ?_; intro w8 HB8 HK8; have hcg := HS.out w8 ((HK7.out.mono fun x _ e => .inl e).trans (HK8.out.mono fun x _ e => .inr e)))))
  all_goals
    go_wp2_with fail
    refine bodyPost_ret (results_cell Tryz.results35 HB8.out rfl _ Tryz.underlying37 rfl info6p) rfl (hR.out _ _ ⟨rfl, ?_, dv', ?_, ?_⟩)
    · exact (((HK5.out.mono (S' := fun x => KD mk sb dv x ∨ x = w.heap.size + 1 + 1) fun x _ e => .inl (.inr (.inl e))).trans (HK7.out.mono fun x _ e => .inl e)).trans (HK8.out.mono fun x _ e => .inr e)).mono fun x hx e => e.elim id fun e => by omega
    · exact HG6.out.imp id fun ⟨q, e, hq⟩ => ⟨q, e, Nat.le_trans HK5.out.size hq⟩
    · have hB := (HAZ.out w5 (Keeps.refl _ _)).lt
      have hsz := HSZ.out
      refine HM7.out.keeps HK8.out (fun x hx e => by have h1 : x = w.heap.size + 1 + 1 := e; omega) fun x hx e => ?_
      have h1 : x = w.heap.size + 1 + 1 := e
      rcases HG6.out with h2 | ⟨q, h2, hq⟩
      · rw [hx] at h2
        have := (HOL.out x h2.symm).1
        omega
      · rw [hx] at h2
        injection h2 with h2
        have h3 : w5.heap.size ≤ q := hq
        omega
end Go.Proofs.YtmhdcnaibleihaaGreatDoor

/- How great a term is, how deep; its parts in memory, one by one. -/
namespace Go.Proofs.YtmhdcnaibleihaaGreatDoor
set_option maxRecDepth 100000
open Go.RowKit
set_option linter.unusedVariables false
set_option linter.unusedSimpArgs false

mutual
def T.size : T → Nat
  | .mk _ _ _ _ _ parts _ _ => T.sizes parts + 1
def T.sizes : List T → Nat
  | [] => 0
  | x :: l => T.size x + T.sizes l
end
theorem All2.mem2 {α β : Type} {R : α → β → Prop} {l : List α} {m : List β} (h : All2 R l m) {b : β} (hb : b ∈ m) : ∃ a, a ∈ l ∧ R a b := by
  induction h with
  | nil => simp at hb
  | cons h t ih =>
    rcases List.mem_cons.1 hb with e | e
    · exact ⟨_, List.mem_cons_self .., e ▸ h⟩
    · obtain ⟨a, ha, hr⟩ := ih e
      exact ⟨a, List.mem_cons_of_mem _ ha, hr⟩


/-- Of rows, one behind the other, one. -/
theorem rows_range {k : Nat} {w : World} {b o : Nat} {ics : List (List Value)} (h : ∀ c ∈ ics, c.length = k) (hc : ∀ j u, ics.flatten[j]? = some u → w.cell? ⟨b, o + j, none⟩ = some u) {i : Nat} {c : List Value} (hi : ics[i]? = some c) : w.rangeAt b (o + i * k) c := fun j v hv => by
  have hl := h c (List.mem_of_getElem? hi)
  have hj : j < k := by have := (List.getElem?_eq_some_iff.1 hv).1; omega
  have := flatten_get h hi hj
  rw [show o + i * k + j = o + (k * i + j) by rw [Nat.mul_comm]; omega]
  exact hc _ _ (this.trans hv)
theorem T.size_pos (x : T) : 1 ≤ x.size := by cases x; simp [T.size]
theorem T.sizes_append (l m : List T) : T.sizes (l ++ m) = T.sizes l + T.sizes m := by
  induction l with
  | nil => simp [T.sizes]
  | cons x l ih => simp only [List.cons_append, T.sizes, ih]; omega
theorem sizesT_len (l : List T) : l.length ≤ T.sizes l := by
  induction l with
  | nil => simp
  | cons x l ih => have := x.size_pos; simp only [List.length_cons, T.sizes]; omega


mutual
theorem T.depth_size : ∀ x : T, T.depth x ≤ T.size x
  | .mk _ _ _ _ _ parts _ _ => by simp only [T.depth, T.size]; have := T.depths_sizes parts; omega
theorem T.depths_sizes : ∀ l : List T, T.depths l ≤ T.sizes l
  | [] => by simp [T.depths]
  | x :: l => by simp only [T.depths, T.sizes]; have := T.depth_size x; have := T.depths_sizes l; omega
end
theorem T.sizes_mem {l : List T} {x : T} (h : x ∈ l) : x.size ≤ T.sizes l := by
  induction l with
  | nil => cases h
  | cons y l ih => simp only [T.sizes]; rcases List.mem_cons.1 h with e | e; subst e; omega; have := ih e; omega
/-- A term's parts in memory, one by one. -/
theorem RdTs_row {p : Nat → Prop} {w : World} {args : List T} {ics : List (List Value)} {b o : Nat} (h : RdTs p w args ics) (hc : ∀ j u, ics.flatten[j]? = some u → w.cell? ⟨b, o + j, none⟩ = some u) {i : Nat} (hi : i < args.length) : ∃ c, RdT p w args[i] c ∧ w.rangeAt b (o + i * 13) c := by
  have hA := (RdTs_iff _ _ _ _).1 h
  obtain ⟨c, h1, h2⟩ := hA.get hi
  refine ⟨c, h2, rows_range (fun c hc => ?_) hc h1⟩
  obtain ⟨a, _, ha⟩ := hA.mem2 hc
  exact ha.len
theorem depthsT_take (l : List T) (i : Nat) (h : i < l.length) : T.depths (l.take (i + 1)) = max (T.depths (l.take i)) (T.depth l[i]) := by
  induction l generalizing i with
  | nil => simp at h
  | cons x l ih =>
    cases i with
    | zero => simp [T.depths]
    | succ i =>
      have := ih i (by simpa using h)
      simp only [List.take_succ_cons, T.depths, List.getElem_cons_succ, this]
      omega
theorem depthsT_mem (l : List T) (i : Nat) (h : i < l.length) : T.depth l[i] ≤ T.depths l := by
  induction l generalizing i with
  | nil => simp at h
  | cons x l ih =>
    cases i with
    | zero => simp [T.depths]; omega
    | succ i =>
      have := ih i (by simpa using h)
      simp only [T.depths, List.getElem_cons_succ]; omega
theorem depthsT_take_le (l : List T) (i : Nat) : T.depths (l.take i) ≤ T.depths l := by
  induction l generalizing i with
  | nil => simp
  | cons x l ih => cases i with
    | zero => simp [T.depths]
    | succ i => have := ih i; simp only [List.take_succ_cons, T.depths]; omega
end Go.Proofs.YtmhdcnaibleihaaGreatDoor
