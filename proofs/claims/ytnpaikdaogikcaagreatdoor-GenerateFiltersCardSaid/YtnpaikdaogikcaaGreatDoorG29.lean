/- The linker: a text of one definition that is read is a grammar. -/
import Derived.Test.YtnpaikdaogikcaaGreatDoorG28
import Derived.Test.YtnpaikdaogikcaaGreatDoorG23
import Derived.Test.YtnpaikdaogikcaaGreatDoorG10

namespace Go.Proofs.YtnpaikdaogikcaaGreatDoor
set_option maxRecDepth 100000
open Go.RowKit
set_option linter.unusedVariables false
set_option linter.unusedSimpArgs false

set_option maxHeartbeats 1000000 in
theorem readG (S : ByteArray) (hS : S.size ≤ 8192) (nm : Bs) (t : T) (hp : DefsOK S [⟨nm, t⟩] [] 0) (hd : t.depth ≤ 32) (hg : LinkT t) (hn : nm.length ≤ 1000) (hs : t.size ≤ 1000) (w : World) :
    Calls Tryz.prog 5 #[.string S] w fun e w' => (∃ gb ts, e = .returned (.tuple #[.pointer (some ⟨gb, 0, none⟩), .int .i64 0, .int .i64 0]) ∧ Gram w' gb nm ts ∧ RdT Any w' t ts) ∧ Ext w w' := by
  refine of_post fun R hR => ?_
  have HP := Lib.hid (parse_readG S hS [⟨nm, t⟩] hp (by simpa using hd) (by simp; exact ⟨hn, by omega⟩) w)
  clear hp
  go_enter Tryz.func5, Tryz.ntmps5
  go_upto_region 2 with (go_at_call 9; refine HP.out.mono ?_; rintro e w1 ⟨⟨A, c, rfl, hgr⟩, hx⟩; have HX := Lib.hid hx; have HGR := Lib.hid hgr; clear hx hgr)
  obtain ⟨hc, ics, h1, h2⟩ := HGR.out
  cases h1 with
  | cons hd ht =>
    cases ht
    next ci =>
    obtain ⟨ts, rfl, hrt⟩ := hd
    obtain ⟨rb, ro, rfl, _, hcell⟩ := h2 (by simp)
    have hrow : w1.rangeAt rb ro (sv nm :: ts) := fun j v hv => hcell j v (by simpa using hv)
    have HLN := Lib.hid (linkT nm t (Fr w.heap.size) ts rb ro c w1 hrt hrow hg hs hn (by simpa using hc))
    have HRT := Lib.hid hrt
    clear hc h2 hrt hcell hrow
    go_wp2_with (go_at_call 10; refine HLN.out.mono ?_; rintro e w2 ⟨⟨gb, rfl, hg2⟩, hx⟩; have HX2 := Lib.hid hx; have HG2 := Lib.hid hg2; clear hx hg2)
    exact bodyPost_ret (results_tmp3 Tryz.results5 _ _ _) rfl (hR.out _ _ ⟨⟨gb, ts, rfl, HG2.out, RdT.mono (fun _ _ => trivial) _ _ (RdT.on HX2.out _ _ HRT.out)⟩, HX.out.trans' HX2.out⟩)
end Go.Proofs.YtnpaikdaogikcaaGreatDoor

/- GenerateFilters: its text is read. -/
namespace Go.Proofs.YtnpaikdaogikcaaGreatDoor
set_option maxRecDepth 100000
open Go.RowKit
set_option linter.unusedVariables false
set_option linter.unusedSimpArgs false

/-- a = where(int(0, 99), this % 5 == 0); -/
abbrev S19 : ByteArray := ⟨#[97, 32, 61, 32, 119, 104, 101, 114, 101, 40, 105, 110, 116, 40, 48, 44, 32, 57, 57, 41, 44, 32, 116, 104, 105, 115, 32, 37, 32, 53, 32, 61, 61, 32, 48, 41, 59]⟩
abbrev l19 : Bs := [97, 32, 61, 32, 119, 104, 101, 114, 101, 40, 105, 110, 116, 40, 48, 44, 32, 57, 57, 41, 44, 32, 116, 104, 105, 115, 32, 37, 32, 53, 32, 61, 61, 32, 48, 41, 59]
theorem tl19 : tl S19 = l19 := rfl
/-- A number that stands alone, up to the signs. -/
theorem num_sign (S : ByteArray) (i : Nat) (n : Int) (e : Nat) (hi : i ≤ S.size) (hS : S.size ≤ 100000) (he : e ≤ S.size) (hd : atP isDig (tl S) (blanks (tl S) i) = true) (hn : numAt (tl S) (blanks (tl S) i) false = some (n, e)) (hg : atP isGo (tl S) e = false)
    (h1 : mark (tl S) e [46] = none) (h2 : mark (tl S) e [91] = none) (h3 : mark (tl S) i [45] = none) : LX 290 S i (lit (.ofInt n)) e :=
  signX0 S i e _ hi hS (partX S i e _ he hS (oneX_num S i n e hi hS hd hn hg) h1 h2) h3
theorem sign_sum (S : ByteArray) (i j : Nat) (x : E) (hj : j ≤ S.size) (hS : S.size ≤ 100000) (h : LX 290 S i x j) (h1 : ∀ t ∈ ([[42], [47], [37]] : List Bs), mark (tl S) j t = none) (h2 : ∀ t ∈ ([[43], [45]] : List Bs), mark (tl S) j t = none) : LX 279 S i x j :=
  sumX0 S i j x hj hS (prodX0 S i j x hj hS h h1) h2
theorem rel_or (S : ByteArray) (i j : Nat) (x : E) (hi : i ≤ S.size) (hj : j ≤ S.size) (hS : S.size ≤ 100000) (h : LX 270 S i x j) (h0 : mark (tl S) i [110, 111, 116] = none) (h1 : ∀ t ∈ ([[97, 110, 100]] : List Bs), mark (tl S) j t = none) (h2 : ∀ t ∈ ([[111, 114]] : List Bs), mark (tl S) j t = none) : LX 182 S i x j :=
  orX0 S i j x hj hS (andX0 S i j x hj hS (notX0 S i j x hi hS h h0) h1) h2
theorem sum_rel (S : ByteArray) (i j : Nat) (x : E) (hj : j ≤ S.size) (hS : S.size ≤ 100000) (h : LX 279 S i x j) (h1 : ∀ t ∈ ([[61, 61], [33, 61], [60, 61], [62, 61], [60], [62]] : List Bs), mark (tl S) j t = none) : LX 270 S i x j := relX0 S i j x hj hS h h1
theorem lx0 : LX 182 S19 14 (lit (.ofInt 0)) 15 :=
  rel_or S19 14 15 _ (by decide) (by decide) (by decide) (sum_rel S19 14 15 _ (by decide) (by decide) (sign_sum S19 14 15 _ (by decide) (by decide) (num_sign S19 14 0 15 (by decide) (by decide) (by decide) (by decide) (by decide) (by decide) (by decide) (by decide) (by decide)) (by decide) (by decide)) (by decide)) (by decide) (by decide) (by decide)
theorem lx99 : LX 182 S19 16 (lit (.ofInt 99)) 19 :=
  rel_or S19 16 19 _ (by decide) (by decide) (by decide) (sum_rel S19 16 19 _ (by decide) (by decide) (sign_sum S19 16 19 _ (by decide) (by decide) (num_sign S19 16 99 19 (by decide) (by decide) (by decide) (by decide) (by decide) (by decide) (by decide) (by decide) (by decide)) (by decide) (by decide)) (by decide)) (by decide) (by decide) (by decide)
abbrev eThis : E := .mk kThis [] .none []
abbrev eMod : E := bin [37] eThis (lit (.ofInt 5))
abbrev eTest : E := bin [61, 61] eMod (lit (.ofInt 0))
theorem lxThis : LX 290 S19 21 eThis 26 :=
  signX0 S19 21 26 _ (by decide) (by decide) (partX S19 21 26 _ (by decide) (by decide) (oneX_this S19 21 (by decide) (by decide) (by decide) (by decide) (by decide)) (by decide) (by decide)) (by decide)
theorem lxMod : LX 279 S19 21 eMod 30 :=
  sumX0 S19 21 30 _ (by decide) (by decide) (prodX1_2 S19 21 26 28 30 eThis (lit (.ofInt 5)) (by decide) (by decide) (by decide) lxThis (num_sign S19 28 5 30 (by decide) (by decide) (by decide) (by decide) (by decide) (by decide) (by decide) (by decide) (by decide)) (by decide) (by decide) (by decide)) (by decide)
theorem lxTest : LX 182 S19 21 eTest 35 :=
  rel_or S19 21 35 _ (by decide) (by decide) (by decide) (relX1_0 S19 21 30 33 35 eMod (lit (.ofInt 0)) (by decide) (by decide) (by decide) lxMod (sign_sum S19 33 35 _ (by decide) (by decide) (num_sign S19 33 0 35 (by decide) (by decide) (by decide) (by decide) (by decide) (by decide) (by decide) (by decide) (by decide)) (by decide) (by decide)) (by decide) (by decide)) (by decide) (by decide) (by decide)
abbrev tSpan : T := tRange (lit (.ofInt 0)) (lit (.ofInt 99))
abbrev tFilter : T := tWhere tSpan eTest
theorem span_ok : TermOK S19 10 tSpan 20 :=
  term_int S19 10 14 20 _ (by decide) (by decide) (by decide) (by decide) (by decide) (by decide) (spanT S19 14 15 16 19 20 _ _ (by decide) (by decide) lx0 (by decide) (by decide) (by decide) (by decide) (by decide) lx99 (by decide) (by decide) (by decide) (by decide))
theorem filter_ok : TermOK S19 3 tFilter 36 :=
  term_where S19 3 10 36 _ (by decide) (by decide) (by decide) (by decide) (by decide) (by decide) (whereT S19 10 20 21 35 36 tSpan eTest (by decide) span_ok (by decide) (by decide) (by decide) lxTest (by decide) (by decide) (by decide) (by decide))
theorem defs19 : DefsOK S19 [⟨[97], tFilter⟩] [] 0 :=
  .more (a := 3) (b := 36) (e2 := 37) (x := tFilter) (.inl rfl) (by decide) (by decide) (by decide) filter_ok (by decide) (by decide) (by decide) (.done (by decide) (by decide) rfl)
theorem link19 : LinkT tFilter := by
  simp only [LinkT, LinkTs]
  exact .inr (.inr (.inr ⟨trivial, ⟨.inr (.inr (.inl ⟨trivial, trivial, by decide, fun x hx => by
    simp only [List.mem_cons, List.not_mem_nil, or_false] at hx
    rcases hx with rfl | rfl
    · exact checkLit 0 0
    · exact checkLit 99 0⟩)), trivial⟩, _, rfl, check_eq _ _ 63 (check_mod _ _ 63 (checkThis 63) (checkLit 5 63)) (checkLit 0 63)⟩))
theorem read19 (w : World) : Calls Tryz.prog 5 #[.string S19] w fun e w' => (∃ gb ts, e = .returned (.tuple #[.pointer (some ⟨gb, 0, none⟩), .int .i64 0, .int .i64 0]) ∧ Gram w' gb [97] ts ∧ RdT Any w' tFilter ts) ∧ Ext w w' :=
  readG S19 (by decide) [97] tFilter defs19 (by decide) link19 (by decide) (by decide) w
end Go.Proofs.YtnpaikdaogikcaaGreatDoor

/- A run: a pick of numbers. -/
namespace Go.Proofs.YtnpaikdaogikcaaGreatDoor
set_option maxRecDepth 100000
open Go.RowKit
set_option linter.unusedVariables false
set_option linter.unusedSimpArgs false

/-- A store of a value, under another name, that no rule opens. -/
def stoHid (x y : Value) : Sem Unit := Instr.storeAt 32 x y
theorem upon_sto {o : Oper} {a : Act} {W : World} {K : Act → World → Prop} {Q : Exit → Act → World → Prop} (B : Nat) (z cs : Array Value) (hb : Hid (Blk W B z 32)) (hz : z.size = 6) (hc : cs.size = 6) (hd : o.dst = none)
    (h1 : ∀ u ∈ cs.toList, u.oneCell' = true) (h : ∀ w', Hid (Blk w' B cs 32) → Hid (Keeps (fun x => x = B) W w') → K (a.put o.dst undef) w') :
    o.upon Tryz.prog a K Q (((stoHid (.pointer (some ⟨B, 0, none⟩)) (.agg cs)).run Tryz.prog W).andThen fun _ w' => .ok .skip w') := by
  obtain ⟨i, hq, hs⟩ := Option.map_eq_some_iff.1 info6p
  have hst := run_storeCells_at (P := Tryz.prog) B 0 32 cs.toList 0 z W hb.out (by simp [hz, hc]) h1
  have e : (z.toList.take (0 + 0) ++ cs.toList ++ z.toList.drop (0 + 0 + cs.toList.length)).toArray = cs := by
    have hd : List.drop cs.size z.toList = [] := List.drop_of_length_le (by simp [hz, hc])
    simp [hd]
  rw [e] at hst
  have hsz : (sizeOf 32).run Tryz.prog W = .ok 6 W := by simp [sizeOf, typeInfo, hq, hs]
  have hcc : (Value.agg cs).cells = cs := rfl
  have hrun : (stoHid (.pointer (some ⟨B, 0, none⟩)) (.agg cs)).run Tryz.prog W = .ok () (W.setRow B cs) := by
    unfold stoHid
    simp only [Instr.storeAt, Instr.sureAddr, storeVar, Sem.run_bind, Sem.run_pure, Result.andThen_ok, hsz, hcc, hc, ne_eq, not_true_eq_false, if_false, hst]
  rw [hrun]
  have := h _ (Lib.hid (hb.out.put cs)) (Lib.hid (keeps_put W B cs))
  simpa [Oper.upon, hd, Act.put] using this
theorem sto_hide {x y : Value} : Instr.storeAt 32 x y = stoHid x y := rfl

attribute [local go_sem ↓ 2000] sto_hide
set_option maxHeartbeats 8000000 in
theorem run_pick (mk gb sb u : Nat) (l ws : List Int) (dv : Value) (ds : List Int) (steps most : Nat) (n : Int) (W : Option Addr) (cw b o pc pl : Nat) (x1 x5 : ByteArray) (x2 x4 : Int) (x3 : Bool) (x6 x9 z3 z6 z9 : Option Addr) (x7 x8 z1 z2 z4 z5 z7 z8 q1 q2 : Nat) (Y1 Y2 : Option Addr) (d1 d2 : Nat) (nm y3 y4 y5 y6 y7 : Value)
    (hv : ∀ q W, RdV q W (.ofInt n) ([.int .i64 2, .bool false, .int .i64 n, .string ⟨#[]⟩, .slice Y1 0 d1, .slice Y2 0 d2] : List Value)) (w : World) (h : Mac w mk gb sb u l dv ds steps most) (hs : steps + 1 < most) (hm : most ≤ 65536) (hpl : pl = placeL ws (l[u]?.getD 0)) (hu : u < l.length) (hl : l.length ≤ 10000) (h0 : 0 ≤ l[u]) (hlt : l[u] < sumL ws)
    (hcw : CellsAt w W (ws.map I64)) (hwb : ∀ B O, W = some ⟨B, O, none⟩ → B < sb) (hw : ∀ n ∈ ws, 1 ≤ n ∧ n ≤ 1000) (hn : ws.length ≤ 64) (hpos : 0 < ws.length) (hp : pl < ws.length) (hd : ds.length ≤ 1000)
    (hbs : b < sb) (hpart : w.rangeAt b (o + pl * 13) [.int .i64 0, nm, .int .i64 2, .bool false, .int .i64 n, .string ⟨#[]⟩, .slice Y1 0 d1, .slice Y2 0 d2, y3, y4, y5, y6, y7]) :
    Calls Tryz.prog 23 #[.pointer (some ⟨mk, 0, none⟩), .agg #[.int .i64 2, .string x1, .int .i64 x2, .bool x3, .int .i64 x4, .string x5, .slice x6 x7 x8, .slice x9 z1 z2, .slice z3 z4 z5, .slice W ws.length cw, .slice (some ⟨b, o, none⟩) ws.length pc, .slice z6 z7 z8, .slice z9 q1 q2], .agg envZ] w fun e w' => e = .returned (.agg (([.int .i64 2, .bool false, .int .i64 n, .string ⟨#[]⟩, .slice Y1 0 d1, .slice Y2 0 d2] : List Value)).toArray) ∧ Keeps (KD mk sb dv) w w' ∧ ∃ dv', Grew w dv dv' ∧ Mac w' mk gb sb (u + 1) l dv' (ds ++ [(pl : Int)]) (steps + 2) most := by
  refine of_post fun R hR => ?_
  have hx1 := ext_al w (.cells #[.int .i64 2, .string x1, .int .i64 x2, .bool x3, .int .i64 x4, .string x5, .slice x6 x7 x8, .slice x9 z1 z2, .slice z3 z4 z5, .slice W ws.length cw, .slice (some ⟨b, o, none⟩) ws.length pc, .slice z6 z7 z8, .slice z9 q1 q2] 51)
  have hb1 := Blk.new w #[.int .i64 2, .string x1, .int .i64 x2, .bool x3, .int .i64 x4, .string x5, .slice x6 x7 x8, .slice x9 z1 z2, .slice z3 z4 z5, .slice W ws.length cw, .slice (some ⟨b, o, none⟩) ws.length pc, .slice z6 z7 z8, .slice z9 q1 q2] 51
  have hs1 : (w.alloc (.cells #[.int .i64 2, .string x1, .int .i64 x2, .bool x3, .int .i64 x4, .string x5, .slice x6 x7 x8, .slice x9 z1 z2, .slice z3 z4 z5, .slice W ws.length cw, .slice (some ⟨b, o, none⟩) ws.length pc, .slice z6 z7 z8, .slice z9 q1 q2] 51)).heap.size = w.heap.size + 1 := World.size_alloc _ _
  have hmk := h.blk.lt
  have HOL : Hid (∀ b, dv.ownBlock = some b → b < w.heap.size ∧ mk < b) := Lib.hid fun b hb => ⟨(h.own.lt b hb).2, (h.own.lt b hb).1⟩
  generalize hw1 : w.alloc (.cells #[.int .i64 2, .string x1, .int .i64 x2, .bool x3, .int .i64 x4, .string x5, .slice x6 x7 x8, .slice x9 z1 z2, .slice z3 z4 z5, .slice W ws.length cw, .slice (some ⟨b, o, none⟩) ws.length pc, .slice z6 z7 z8, .slice z9 q1 q2] 51) = w1 at *
  have hx2 := ext_al w1 (.cells envZ 92)
  have hb2 := Blk.new w1 envZ 92
  have hs2 : (w1.alloc (.cells envZ 92)).heap.size = w1.heap.size + 1 := World.size_alloc _ _
  rw [hs1] at hb2
  generalize hw2 : w1.alloc (.cells envZ 92) = w2 at *
  have hx3 := ext_al w2 (.cells zero6a 32)
  have hb3 := Blk.new w2 zero6a 32
  generalize hw3 : w2.alloc (.cells zero6a 32) = w3 at *
  have HW1 := Lib.hid hw1
  have HW2 := Lib.hid hw2
  have HW3 := Lib.hid hw3
  have HSZ : Hid (w1.heap.size = w.heap.size + 1 ∧ w2.heap.size = w.heap.size + 2 ∧ mk < w.heap.size) := Lib.hid ⟨hs1, by omega, hmk⟩
  have HX := Lib.hid ((hx1.trans' hx2).trans' hx3)
  have HXA := Lib.hid (hx1.trans' hx2)
  have HB := Lib.hid ((hb1.on hx2).on hx3)
  have HE := Lib.hid (hb2.on hx3)
  have HR3 := Lib.hid hb3
  have HC := Lib.hid (h.on ((hx1.trans' hx2).trans' hx3))
  have HCW := Lib.hid hcw
  have HWB := Lib.hid hwb
  clear hwb
  have HPT := Lib.hid hpart
  have k1 : ((steps : Int) == (most : Int)) = false := by simp; omega
  have k2 : (steps : Int) + 1 ≤ 65536 := by omega
  have HLT := Lib.hid h.lt
  have HPL := Lib.hid hpl
  have HBS : Hid (b < sb ∧ sb < mk) := Lib.hid ⟨hbs, h.lt⟩
  have HPP := Lib.hid hp
  clear hp hpl
  clear h hx1 hb1 hs1 hmk hw1 hx2 hs2 hw2 hx3 hw3 hb2 hb3 hcw hpart
  go_enter Tryz.func23, Tryz.ntmps23
  go_upto_region 1 with fail
  rw [HW1.out, HW2.out, HW3.out]
  have hcm := HC.out.blk.cell
  go_upto_region 3 with fail
  go_cut [25] (fun s wx => s = .bool false ∧ Hid (Ext w3 wx))
  case first =>
    go_region
    all_goals
      go_wp2_with fail
      go_meet
      exact ⟨rfl, Lib.hid ((Ext.refl' _).drewN' 1)⟩
  obtain ⟨rfl, HXC⟩ := hcut
  have HC2 := Lib.hid (HC.out.on HXC.out)
  have HB2 := Lib.hid (HB.out.on HXC.out)
  have hcm2 := HC2.out.blk.cell
  have hfm2 := HC2.out.blk.frozen
  clear hcm HC HB
  go_upto_region 6 with fail
  have HC5 := Lib.hid HC2.out.step
  have HKS := Lib.hid (Keeps.set wc ⟨mk, 3, none⟩ (.int .i64 ((steps : Int) + 1)))
  obtain ⟨w5, hw5⟩ : ∃ w5, wc.setCell ⟨mk, 3, none⟩ (.int .i64 ((steps : Int) + 1)) = w5 := ⟨_, rfl⟩
  rw [hw5] at HC5 HKS ⊢
  clear hw5 hcm2 hfm2
  have HK5 : Hid (Keeps (fun x => x = mk) w w5) := Lib.hid ((Keeps.of_ext (HX.out.trans' HXC.out)).trans HKS.out)
  have HS : Hid (∀ X, Keeps (fun x => KD mk sb dv x ∨ x = w.heap.size + 1 + 1) w5 X → X.cell? ⟨w.heap.size, 10, none⟩ = some (.slice (some ⟨b, o, none⟩) ws.length pc) ∧ X.cell? ⟨w.heap.size, 9, none⟩ = some (.slice W ws.length cw) ∧ X.cell? ⟨b, o + pl * 13, none⟩ = some (.int .i64 0) ∧ X.cell? ⟨b, o + pl * 13 + 1, none⟩ = some (nm) ∧ X.cell? ⟨b, o + pl * 13 + 2, none⟩ = some (.int .i64 2) ∧ X.cell? ⟨b, o + pl * 13 + 3, none⟩ = some (.bool false) ∧ X.cell? ⟨b, o + pl * 13 + 4, none⟩ = some (.int .i64 n) ∧ X.cell? ⟨b, o + pl * 13 + 5, none⟩ = some (.string ⟨#[]⟩) ∧ X.cell? ⟨b, o + pl * 13 + 6, none⟩ = some (.slice Y1 0 d1) ∧ X.cell? ⟨b, o + pl * 13 + 7, none⟩ = some (.slice Y2 0 d2) ∧ X.cell? ⟨b, o + pl * 13 + 8, none⟩ = some (y3) ∧ X.cell? ⟨b, o + pl * 13 + 9, none⟩ = some (y4) ∧ X.cell? ⟨b, o + pl * 13 + 10, none⟩ = some (y5) ∧ X.cell? ⟨b, o + pl * 13 + 11, none⟩ = some (y6) ∧ X.cell? ⟨b, o + pl * 13 + 12, none⟩ = some (y7) ∧ X.cell? ⟨w.heap.size + 1, 0, none⟩ = some (.int .i64 0) ∧ X.cell? ⟨w.heap.size + 1, 1, none⟩ = some (.bool false) ∧ X.cell? ⟨w.heap.size + 1, 2, none⟩ = some (.int .i64 0) ∧ X.cell? ⟨w.heap.size + 1, 3, none⟩ = some (.string ⟨#[]⟩) ∧ X.cell? ⟨w.heap.size + 1, 4, none⟩ = some (.slice none 0 0) ∧ X.cell? ⟨w.heap.size + 1, 5, none⟩ = some (.slice none 0 0) ∧ X.cell? ⟨w.heap.size + 1, 6, none⟩ = some (.slice none 0 0) ∧ X.cell? ⟨w.heap.size + 1, 7, none⟩ = some (.slice none 0 0)) := Lib.hid fun X hk => by
    have hsz := HSZ.out
    have hlt := HLT.out
    have hn0 : ∀ x, w.heap.size ≤ x → x ≤ w.heap.size + 1 → ¬ (KD mk sb dv x ∨ x = w.heap.size + 1 + 1) := fun x hx hx2 e => by
      rcases e with (e | e | e) | e
      · omega
      · omega
      · have := (HOL.out x e).1; omega
      · omega
    have hB := (((HB2.out.keeps HKS.out (by show ¬ w.heap.size = mk; omega)).keeps hk (hn0 _ (by omega) (by omega))).cell)
    have hE := (((HE.out.on HXC.out).keeps HKS.out (by show ¬ w.heap.size + 1 = mk; omega)).keeps hk (hn0 _ (by omega) (by omega))).cell
    have hP : ∀ j v, [.int .i64 0, nm, .int .i64 2, .bool false, .int .i64 n, .string ⟨#[]⟩, .slice Y1 0 d1, .slice Y2 0 d2, y3, y4, y5, y6, y7][j]? = some v → X.cell? ⟨b, o + pl * 13 + j, none⟩ = some v := fun j v hj => hk.cell (by
      show ¬ (KD mk sb dv b ∨ b = w.heap.size + 1 + 1)
      intro e
      rcases e with (e | e | e) | e
      · have h1 : b = sb := e; have := HBS.out; omega
      · have h1 : b = mk := e; have := HBS.out; omega
      · have h1 := (HOL.out b e).2; have := HBS.out; omega
      · have := HBS.out; have := HSZ.out; omega) (HK5.out.cell (by show ¬ b = mk; have := HBS.out; omega) (HPT.out j v hj))
    exact ⟨hB 10, hB 9, hP 0 _ rfl, hP 1 _ rfl, hP 2 _ rfl, hP 3 _ rfl, hP 4 _ rfl, hP 5 _ rfl, hP 6 _ rfl, hP 7 _ rfl, hP 8 _ rfl, hP 9 _ rfl, hP 10 _ rfl, hP 11 _ rfl, hP 12 _ rfl, hE 0, hE 1, hE 2, hE 3, hE 4, hE 5, hE 6, hE 7⟩
  have HAZ : Hid (∀ X, Keeps (KD mk sb dv) w5 X → Blk X (w.heap.size + 1 + 1) zero6a 32) := Lib.hid fun X hk => by
    have hsz := HSZ.out
    have hA0 := (((HR3.out.on HXC.out).keeps HKS.out (by show ¬ w2.heap.size = mk; omega)).keeps hk (fun e => by
      rcases e with e | e | e
      · have h1 : w2.heap.size = sb := e; have := HBS.out; omega
      · have h1 : w2.heap.size = mk := e; omega
      · have := (HOL.out _ e).1; omega))
    rw [hsz.2.1] at hA0
    exact hA0
  have HCW5 : Hid (CellsAt w5 W (ws.map I64)) := Lib.hid fun hne => by
    obtain ⟨B, O, e, hcell⟩ := HCW.out hne
    exact ⟨B, O, e, fun k v hv => HK5.out.cell (by show ¬ B = mk; have := HWB.out B O e; have := HBS.out; omega) (hcell k v hv)⟩
  have HCH := Lib.hid (fun (X : World) (hx : Ext w5 X) => chooseM mk gb sb u l ws W cw dv ds (steps + 1) most X (HC5.out.on hx) hu hl h0 hlt ((HCW5.out).ext hx) hw hn hpos (by have h1 := HPP.out; rw [HPL.out] at h1; simpa [hu] using h1) hd)
  have HPE : Hid (placeL ws l[u] = pl) := Lib.hid (by rw [HPL.out]; simp [hu])
  rw [HPE.out] at HCH
  have HRN := Lib.hid (fun (X : World) (dv' : Value) (hm' : Mac X mk gb sb (u + 1) l dv' (ds ++ [(pl : Int)]) (steps + 1) most) => run_just mk gb sb (u + 1) l dv' (ds ++ [(pl : Int)]) (steps + 1) most n nm (.slice Y1 0 d1) (.slice Y2 0 d2) y3 y4 y5 y6 y7 hv X hm' hs hm)
  have hcd := HS.out w5.drew (Keeps.of_ext ((Ext.refl' w5).drewN' 1))
  have kp := HPP.out
  have kp1 : (pl : Int) < ws.length := by omega
  clear hlt h0 hw hpos
  have hcb := (HB2.out.keeps HKS.out (by have := HSZ.out; show ¬ w.heap.size = mk; omega)).cell
  go_upto_region 15 with fail
  clear hcb
  go_region_held3 (fun X => X.cell? ⟨w.heap.size, 10, none⟩ = some (.slice (some ⟨b, o, none⟩) ws.length pc) ∧ X.cell? ⟨w.heap.size, 9, none⟩ = some (.slice W ws.length cw) ∧ X.cell? ⟨b, o + pl * 13, none⟩ = some (.int .i64 0) ∧ X.cell? ⟨b, o + pl * 13 + 1, none⟩ = some (nm) ∧ X.cell? ⟨b, o + pl * 13 + 2, none⟩ = some (.int .i64 2) ∧ X.cell? ⟨b, o + pl * 13 + 3, none⟩ = some (.bool false) ∧ X.cell? ⟨b, o + pl * 13 + 4, none⟩ = some (.int .i64 n) ∧ X.cell? ⟨b, o + pl * 13 + 5, none⟩ = some (.string ⟨#[]⟩) ∧ X.cell? ⟨b, o + pl * 13 + 6, none⟩ = some (.slice Y1 0 d1) ∧ X.cell? ⟨b, o + pl * 13 + 7, none⟩ = some (.slice Y2 0 d2) ∧ X.cell? ⟨b, o + pl * 13 + 8, none⟩ = some (y3) ∧ X.cell? ⟨b, o + pl * 13 + 9, none⟩ = some (y4) ∧ X.cell? ⟨b, o + pl * 13 + 10, none⟩ = some (y5) ∧ X.cell? ⟨b, o + pl * 13 + 11, none⟩ = some (y6) ∧ X.cell? ⟨b, o + pl * 13 + 12, none⟩ = some (y7) ∧ X.cell? ⟨w.heap.size + 1, 0, none⟩ = some (.int .i64 0) ∧ X.cell? ⟨w.heap.size + 1, 1, none⟩ = some (.bool false) ∧ X.cell? ⟨w.heap.size + 1, 2, none⟩ = some (.int .i64 0) ∧ X.cell? ⟨w.heap.size + 1, 3, none⟩ = some (.string ⟨#[]⟩) ∧ X.cell? ⟨w.heap.size + 1, 4, none⟩ = some (.slice none 0 0) ∧ X.cell? ⟨w.heap.size + 1, 5, none⟩ = some (.slice none 0 0) ∧ X.cell? ⟨w.heap.size + 1, 6, none⟩ = some (.slice none 0 0) ∧ X.cell? ⟨w.heap.size + 1, 7, none⟩ = some (.slice none 0 0)) (first | exact hcd | exact hce | exact hcf | exact hcg | go_keep) ((first
    | (go_at_call 40; refine (HCH.out _ ((Ext.refl' _).drewN' 1)).mono ?_; rintro e w6 ⟨rfl, hk, dv', hg, hm6⟩; have HK6 := Lib.hid ((Keeps.of_ext ((Ext.refl' w5).drewN' 1)).trans hk); have HG6 := Lib.hid hg; have HM6 := Lib.hid hm6; have hce := HS.out w6 (HK6.out.mono fun x _ e => .inl e); clear hk hg hm6)
    | (go_at_call 23; refine (HRN.out _ _ HM6.out).mono ?_; rintro e w7 ⟨rfl, hk, hm7⟩; have HK7 := Lib.hid (HK6.out.trans (hk.mono fun x _ e => .inr (.inl e))); have HM7 := Lib.hid hm7; have hcf := HS.out w7 (HK7.out.mono fun x _ e => .inl e); clear hk hm7)
    | (refine upon_sto _ zero6a _ (Lib.hid (HAZ.out w7 HK7.out)) rfl rfl rfl (by simp [Value.oneCell']) ?_; intro w8 HB8 HK8; have hcg := HS.out w8 ((HK7.out.mono fun x _ e => .inl e).trans (HK8.out.mono fun x _ e => .inr e)))))
  all_goals
    go_wp2_with fail
    refine bodyPost_ret (results_cell Tryz.results23 HB8.out rfl _ Tryz.underlying32 rfl info6p) rfl (hR.out _ _ ⟨rfl, ?_, dv', ?_, ?_⟩)
    · exact (((HK5.out.mono (S' := fun x => KD mk sb dv x ∨ x = w.heap.size + 1 + 1) fun x _ e => .inl (.inr (.inl e))).trans (HK7.out.mono fun x _ e => .inl e)).trans (HK8.out.mono fun x _ e => .inr e)).mono fun x hx e => e.elim id fun e => by omega
    · exact HG6.out.imp id fun ⟨q, e, hq⟩ => ⟨q, e, Nat.le_trans HK5.out.size hq⟩
    · have hB := (HAZ.out w5 (Keeps.refl _ _)).lt
      have hsz := HSZ.out
      refine HM7.out.keeps HK8.out (fun x hx e => by have h1 : x = w.heap.size + 1 + 1 := e; omega) fun x hx e => ?_
      have h1 : x = w.heap.size + 1 + 1 := e
      rcases HG6.out with h2 | ⟨q, h2, hq⟩
      · rw [hx] at h2
        have := (HOL.out x h2.symm).1
        omega
      · rw [hx] at h2
        injection h2 with h2
        have h3 : w5.heap.size ≤ q := hq
        omega
end Go.Proofs.YtnpaikdaogikcaaGreatDoor
