/- The terms' parser: weights and parts that grow in one term. -/
import Derived.Test.YtmhdcnaibleihaaGreatDoorG08
import Derived.Test.YtmhdcnaibleihaaGreatDoorG02
import Derived.Deep.RegionHeld3
import Derived.Deep.CutBlock
import Derived.Deep.DeepCutAuto

namespace Go.Proofs.YtmhdcnaibleihaaGreatDoor
set_option maxRecDepth 100000
open Go.RowKit
set_option linter.unusedVariables false
set_option linter.unusedSimpArgs false

/-- Blocks that are no row's of the other kind. -/
abbrev OffT (base : Nat) (u : Value) : Nat → Prop := fun b => base ≤ b ∧ u.ownBlock ≠ some b
/-- One-cell things and terms that grow side by side. -/
structure PRow (base : Nat) (t1 : TypeId) (u : Value) (ks : List Value) (v : Value) (ts : List T) (ics : List (List Value)) (w : World) : Prop where
  own : w.ownsRow base t1 1 u ks.length ks
  row : RowG RdT 61 13 base (OffT base u) w v ts ics
  dj : ∀ b, v.ownBlock = some b → u.ownBlock ≠ some b
  le : base ≤ w.heap.size
section
variable {base : Nat} {t1 : TypeId} {u v u1 v1 : Value} {ks : List Value} {ts : List T} {ics : List (List Value)} {w w1 : World} {S : Nat → Prop}
theorem PRow.nil (base : Nat) (t1 : TypeId) (w : World) (h : base ≤ w.heap.size) : PRow base t1 (.slice none 0 0) [] (.slice none 0 0) [] [] w :=
  ⟨⟨by simp, .inl ⟨rfl, rfl⟩⟩, RowG.nil _ _ _ _ _ _, fun b h => by simp [Value.ownBlock] at h, h⟩
theorem PRow.keeps (h : PRow base t1 u ks v ts ics w) (hx : Keeps S w w1) (hs : ∀ b, base ≤ b → ¬ S b) : PRow base t1 u ks v ts ics w1 :=
  ⟨hx.own h.own fun b hb => hs b (h.own.lt b hb).1, h.row.keeps movesT hx (fun b hb => hs b hb.1) fun b hb => hs b (h.row.own.lt b hb).1, h.dj, Nat.le_trans h.le hx.size⟩
theorem PRow.on (h : PRow base t1 u ks v ts ics w) (hx : Ext w w1) : PRow base t1 u ks v ts ics w1 := h.keeps (Keeps.of_ext (S := fun _ => False) hx) fun _ _ h => h
theorem PRow.far (h : PRow base t1 u ks v ts ics w) (b : Nat) (hb : Fr w.heap.size b) : OffT base u b ∧ v.ownBlock ≠ some b := by
  have h0 : w.heap.size ≤ b := hb
  have hl := h.le
  exact ⟨⟨by omega, fun e => by have := (h.own.lt _ e).2; omega⟩, fun e => by have := (h.row.own.lt _ e).2; omega⟩
theorem PRow.push1 {k : Value} (h : PRow base t1 u ks v ts ics w) (ho : w1.ownsRow base t1 1 u1 (ks.length + 1) (ks ++ [k])) (hp : Push w u w1 u1) : PRow base t1 u1 (ks ++ [k]) v ts ics w1 := by
  have hk := Keeps.of_grown hp.grown
  have hvb : ∀ b, v.ownBlock = some b → base ≤ b ∧ b < w.heap.size := fun b hb => h.row.own.lt b hb
  refine ⟨by simpa using ho, ?_, fun b hb => hp.apart (hvb b hb).2 (h.dj b hb), Nat.le_trans h.le hk.size⟩
  have h1 := (h.row.regood (G' := fun b => OffT base u b ∧ OffT base u1 b) movesT fun b hb hg => ⟨hg, hg.1, hp.apart hb hg.2⟩).keeps movesT hk (fun b hb e => hb.1.2 e) fun b hb e => h.dj b hb e
  exact h1.regood movesT fun b _ hg => hg.2
theorem PRow.pushT {x : T} {cs : List Value} (h : PRow base t1 u ks v ts ics w) (hr : RowG RdT 61 13 base (OffT base u) w1 v1 (ts ++ [x]) (ics ++ [cs])) (hp : Push w v w1 v1) : PRow base t1 u ks v1 (ts ++ [x]) (ics ++ [cs]) w1 := by
  have hk := Keeps.of_grown hp.grown
  refine ⟨hk.own h.own fun b hb e => h.dj b e hb, hr, fun b hb e => ?_, Nat.le_trans h.le hk.size⟩
  rcases hp.block with h1 | ⟨q, h1, hq⟩
  · exact h.dj b (h1 ▸ hb) e
  · rw [h1] at hb; cases hb; have := (h.own.lt _ e).2; omega
/-- What grows lies in blocks from base on. -/
theorem PRow.keep1 (h : PRow base t1 u ks v ts ics w) (hp : Push w u w1 u1) {K : Nat → Prop} (hK : ∀ b, base ≤ b → K b) : Keeps K w w1 :=
  (Keeps.of_grown hp.grown).mono fun b _ e => hK b (h.own.lt _ e).1
theorem PRow.keepT (h : PRow base t1 u ks v ts ics w) (hp : Push w v w1 v1) {K : Nat → Prop} (hK : ∀ b, base ≤ b → K b) : Keeps K w w1 :=
  (Keeps.of_grown hp.grown).mono fun b _ e => hK b (h.row.own.lt _ e).1
end
theorem RdT.thirteenA {p : Nat → Prop} {w : World} {x : T} {cs : Array Value} (h : RdT p w x cs.toList) : ∃ k0 nm k b n s A la c B lb d K lk kc W lw wc P lp pc X lx xc Z lz zc, cs = #[.int .i64 k0, .string nm, .int .i64 k, .bool b, .int .i64 n, .string s, .slice A la c, .slice B lb d, .slice K lk kc, .slice W lw wc, .slice P lp pc, .slice X lx xc, .slice Z lz zc] := by
  obtain ⟨x0, x1, x2, x3, x4, x5, x6, x7, x8, x9, y0, y1, y2, y3, y4, y5, y6, y7, y8, y9, z0, z1, z2, z3, z4, z5, z6, e⟩ := RdT.thirteen h
  exact ⟨x0, x1, x2, x3, x4, x5, x6, x7, x8, x9, y0, y1, y2, y3, y4, y5, y6, y7, y8, y9, z0, z1, z2, z3, z4, z5, z6, Array.ext' e⟩
theorem infoInt : (Tryz.prog.info? 3).map (fun i => (i.zero, i.size, i.bytes)) = some (some (.int .i64 0), 1, 8) := by kernel_rfl
theorem infoStr : (Tryz.prog.info? 9).map (fun i => (i.zero, i.size, i.bytes)) = some (some (.string ⟨#[]⟩), 1, 16) := by kernel_rfl
theorem info13P : (Tryz.prog.info? 61).map (fun i => (i.zero, i.size, i.bytes)) = some (some (.agg zero13a), 13, 232) := by kernel_rfl
end Go.Proofs.YtmhdcnaibleihaaGreatDoor

/- A chooser by a source: a place, by weights; a machine's choice. -/
namespace Go.Proofs.YtmhdcnaibleihaaGreatDoor
set_option maxRecDepth 100000
open Go.RowKit
set_option linter.unusedVariables false
set_option linter.unusedSimpArgs false

set_option maxHeartbeats 1000000 in
theorem cloneI (A : Option Addr) (xs : List Int) (c : Nat) (w : World) (hA : CellsAt w A (xs.map I64)) (hx : xs.length ≤ 100000) :
    Calls Tryz.prog 11 #[.slice A xs.length c] w fun e w' => (∃ A' c', e = .returned (.slice A' xs.length c') ∧ CellsAt w' A' (xs.map I64) ∧ ∀ b o, A' = some ⟨b, o, none⟩ → w.heap.size ≤ b) ∧ Ext w w' := by
  refine of_post fun R hR => ?_
  obtain ⟨i0, hi, hz0, hz1, hz2⟩ := info_parts infoInt
  have heq := fun (W : World) (a : Option Addr) (n c : Nat) => Lib.run_eql_slice_nil (P := Tryz.prog) W 28 3 a n c 0 0 Tryz.underlying28
  cases A with
  | none =>
    have h0 : xs = [] := by
      by_cases h : xs = []
      · exact h
      · obtain ⟨b, o, e, _⟩ := hA (by simpa using h); cases e
    subst h0
    clear hA hx
    go_enter Tryz.func11, Tryz.ntmps11
    go_wp2_with fail
    exact hR.out _ _ ⟨⟨none, 0, rfl, CellsAt.nil _ _, fun b o e => by cases e⟩, Ext.refl' _⟩
  | some a =>
    have HC := Lib.hid (CellsAt.ext hA ((Ext.refl' w).alloc' (.cells #[] 3)))
    have HO := Lib.hid (own_empty w 3 1)
    have hb1 : (0 + xs.length) * 8 ≤ 140737488355328 := by omega
    have hb2 : 0 + xs.length ≤ maxLen := by unfold maxLen; omega
    have HL : Hid ((xs.map I64).length = xs.length * 1) := Lib.hid (by simp)
    have HON := Lib.hid (oneCells_I64 xs)
    generalize hus : xs.map I64 = us at *
    have HUS := Lib.hid hus
    clear hA hx hus
    generalize xs.length = n at *
    go_enter Tryz.func11, Tryz.ntmps11
    go_wp2_with (at_builtin; go_must (refine wpList_append_src _ rfl _ _ 28 rfl w.heap.size 3 i0 (.int .i64 0) 1 8 Tryz.underlying28 hi hz0 hz1 hz2 rfl (by decide) (.slice (some ⟨w.heap.size, 0, none⟩) 0 0) 0 [] rfl HO.out (some a) n c us rfl HL.out HC.out HON.out hb1 hb2 (by simp) ?_); intro u' w2 hO1 hG1 hB1; rw [Nat.zero_add, List.nil_append] at hO1; obtain ⟨A2, c2, rfl⟩ := own_form hO1; have HO1 := Lib.hid hO1; have HX := Lib.hid (ext_grown_from ((Ext.refl' w).alloc' _) hG1 (by intro k hk; simp [Value.ownBlock] at hk; omega)); clear hO1 hG1 hB1)
    refine hR.out _ _ ⟨⟨A2, c2, rfl, cellsAt_of_own HO1.out, ?_⟩, HX.out⟩
    rintro b o rfl
    rcases HO1.out.2 with ⟨h1, _⟩ | ⟨g, cap, cur, h1, hb, _⟩
    · injection h1 with h1; cases h1
    · injection h1 with h1; cases h1; exact hb
set_option maxHeartbeats 1000000 in
theorem chooseC (sb u : Nat) (l ws : List Int) (A : Option Addr) (c : Nat) (bound : Value) (w : World) (h : Src w sb u l) (hu : u < l.length) (hl : l.length ≤ 10000) (h0 : 0 ≤ l[u]) (hlt : l[u] < sumL ws) (hc : CellsAt w A (ws.map I64)) (hne : ∀ b o, A = some ⟨b, o, none⟩ → b ≠ sb)
    (hw : ∀ n ∈ ws, 1 ≤ n ∧ n ≤ 1000) (hn : ws.length ≤ 64) (hpos : 0 < ws.length) :
    Calls Tryz.prog 319 #[.agg #[.iface 47 (.pointer (some ⟨sb, 0, none⟩))], bound, .slice A ws.length c] w fun e w' => e = .returned (.tuple #[.int .i64 (placeL ws l[u]), .int .i64 0]) ∧ Keeps (fun b => b = sb) w w' ∧ Src w' sb (u + 1) l := by
  refine of_post fun R hR => ?_
  have hx := ext_al w (.cells #[.iface 47 (.pointer (some ⟨sb, 0, none⟩))] 84)
  have HWT := Lib.hid (weighT sb u l ws A c _ (h.on hx) hu hl h0 hlt (hc.ext hx) hne hw hn)
  have HX := Lib.hid hx
  have hp1 : (0 : Int) < ws.length := by omega
  clear h hc hne hw hlt h0 hx
  generalize l[u] = x at *
  generalize placeL ws x = pl at *
  generalize ws.length = n at *
  go_enter Tryz.func319, Tryz.ntmps319
  go_wp2_with (go_at_call 320; refine HWT.out.mono ?_; rintro e w2 ⟨rfl, hk, hs⟩; have HK := Lib.hid hk; have HS2 := Lib.hid hs; clear hk hs)
  exact hR.out _ _ ⟨rfl, (Keeps.of_ext HX.out).trans HK.out, HS2.out⟩
end Go.Proofs.YtmhdcnaibleihaaGreatDoor

/- A machine's choice, by weights. -/
namespace Go.Proofs.YtmhdcnaibleihaaGreatDoor
set_option maxRecDepth 100000
open Go.RowKit
set_option linter.unusedVariables false
set_option linter.unusedSimpArgs false

abbrev srcV (sb : Nat) : Value := .iface 84 (.agg #[.iface 47 (.pointer (some ⟨sb, 0, none⟩))])
abbrev macC (gb sb : Nat) (dv : Value) (steps most : Nat) : Array Value := #[.pointer (some ⟨gb, 0, none⟩), srcV sb, dv, .int .i64 steps, .int .i64 most, .int .i64 0]
/-- A machine: its grammar, its chooser, its draws, its steps. -/
structure Mac (w : World) (mk gb sb u : Nat) (l : List Int) (dv : Value) (ds : List Int) (steps most : Nat) : Prop where
  blk : Blk w mk (macC gb sb dv steps most) 101
  own : w.ownsRow (mk + 1) 3 1 dv ds.length (ds.map I64)
  src : Src w sb u l
  lt : sb < mk
abbrev KD (mk sb : Nat) (dv : Value) : Nat → Prop := fun b => b = sb ∨ b = mk ∨ dv.ownBlock = some b
/-- The row of draws is the same one, or a new one. -/
def Grew (w : World) (dv dv' : Value) : Prop := dv'.ownBlock = dv.ownBlock ∨ ∃ q, dv'.ownBlock = some q ∧ w.heap.size ≤ q
theorem Mac.on {w w' : World} {mk gb sb u : Nat} {l : List Int} {dv : Value} {ds : List Int} {steps most : Nat} (h : Mac w mk gb sb u l dv ds steps most) (hx : Ext w w') : Mac w' mk gb sb u l dv ds steps most := ⟨h.blk.on hx, own_ext h.own hx, h.src.on hx, h.lt⟩
theorem method_val {P : Program} {t : TypeId} {name : String} {K : FuncId} {fuel : Nat} {v : Value} {w : World} {fs : Array Field} (hu : P.underlying t = some (.struct fs))
    (h : (P.info? t).bind (fun i => (i.methods.find? (fun m => m.name == name)).map (fun m => (m.path, m.func))) = some (#[], some (K, false))) : (method (fuel + 1) t v name).run P w = .ok (K, v) w := by
  obtain ⟨i, hi, h⟩ := Option.bind_eq_some_iff.1 h
  obtain ⟨m, hm, h⟩ := Option.map_eq_some_iff.1 h
  simp only [Prod.mk.injEq] at h
  obtain ⟨hp, hf⟩ := h
  unfold method
  simp [typeInfo, hi, hm, hp, hf, follow, receiverAt, run_underlying hu, Place.get]
theorem meth_choose (n : Nat) (v : Value) (W : World) : (method (n + 1) 84 v "Choose").run Tryz.prog W = .ok (319, v) W :=
  method_val Tryz.underlying84 (by kernel_rfl)
set_option maxHeartbeats 4000000 in
theorem chooseM (mk gb sb u : Nat) (l ws : List Int) (A : Option Addr) (c : Nat) (dv : Value) (ds : List Int) (steps most : Nat) (w : World) (h : Mac w mk gb sb u l dv ds steps most) (hu : u < l.length) (hl : l.length ≤ 10000) (h0 : 0 ≤ l[u]) (hlt : l[u] < sumL ws)
    (hc : CellsAt w A (ws.map I64)) (hw : ∀ n ∈ ws, 1 ≤ n ∧ n ≤ 1000) (hn : ws.length ≤ 64) (hpos : 0 < ws.length) (hp : placeL ws l[u] < ws.length) (hd : ds.length ≤ 1000) :
    Calls Tryz.prog 63 #[.pointer (some ⟨mk, 0, none⟩), .int .i64 ws.length, .slice A ws.length c] w fun e w' => e = .returned (.int .i64 (placeL ws l[u])) ∧ Keeps (KD mk sb dv) w w' ∧ ∃ dv', Grew w dv dv' ∧ Mac w' mk gb sb (u + 1) l dv' (ds ++ [(placeL ws l[u] : Int)]) steps most := by
  refine of_post fun R hR => ?_
  have hcm := h.blk.cell
  obtain ⟨D, dc, rfl⟩ := own_form h.own
  have HM := Lib.hid h
  have HCL := Lib.hid (fun W (hx : Ext w W) => cloneI A ws c W (hc.ext hx) (by omega))
  have HCH := Lib.hid (fun (A' : Option Addr) (c' : Nat) (W : World) (hs : Src W sb u l) (hc' : CellsAt W A' (ws.map I64)) (hne : ∀ b o, A' = some ⟨b, o, none⟩ → b ≠ sb) => chooseC sb u l ws A' c' (.int .i64 ws.length) W hs hu hl h0 hlt hc' hne hw hn hpos)
  have hmt := fun n v W => meth_choose n v W
  have k1 : (placeL ws l[u] : Int) < ws.length := by omega
  have k2 : ¬ (ws.length : Int) ≤ placeL ws l[u] := by omega
  have k3 : (0 : Int) ≤ placeL ws l[u] := by omega
  have k4 : ((ds.length : Int) == 4096) = false := by simp; omega
  have HD := Lib.hid hd
  have HSL := Lib.hid h.src.lt
  have HLT := Lib.hid h.lt
  clear h hc hw hn hpos hp h0 hlt
  generalize placeL ws l[u] = pl at *
  generalize hnl : ws.length = n at *
  go_enter Tryz.func63, Tryz.ntmps63
  go_upto_region 6 with fail
  go_cut [7, 8] (fun s7 s8 wx => s7 = .int .i64 pl ∧ s8 = .int .i64 0 ∧ Hid (Keeps (fun b => b = sb) w wx) ∧ Hid (Mac wx mk gb sb (u + 1) l (.slice D ds.length dc) ds steps most))
  case first =>
    have hcd : w.drew.cell? ⟨mk, 1, none⟩ = some (srcV sb) := hcm 1
    go_region_held3 (fun X => X.cell? ⟨mk, 1, none⟩ = some (srcV sb)) (first | exact hcd | exact hce | exact hcf | go_keep) ((first
      | (go_at_call 11; refine (HCL.out _ ((Ext.refl' _).drewN' 1)).mono ?_; rintro e w1 ⟨⟨A', c', rfl, hc1, hb1⟩, hx⟩; have HX1 := Lib.hid (((Ext.refl' w).drewN' 1).trans' hx); have HC1 := Lib.hid hc1; have HB1 := Lib.hid hb1; have hce : w1.cell? ⟨mk, 1, none⟩ = some (srcV sb) := (HM.out.on HX1.out).blk.cell 1; clear hx hc1 hb1)
      | (go_at_call 319; refine (HCH.out _ _ _ (HM.out.src.on HX1.out) HC1.out (fun b o e => by have h1 := HB1.out b o e; have h2 := HSL.out; have h3 : w.heap.size ≤ b := h1; omega)).mono ?_; rintro e w2 ⟨rfl, hk, hs⟩; have HK2 := Lib.hid hk; have HS2 := Lib.hid hs; have hcf : w2.cell? ⟨mk, 1, none⟩ = some (srcV sb) := ((HM.out.on HX1.out).blk.keeps hk (by have := HLT.out; omega)).cell 1; clear hk hs)))
    all_goals
      go_wp2_with fail
      go_meet
      exact ⟨rfl, rfl, Lib.hid ((Keeps.of_ext HX1.out).trans HK2.out), Lib.hid ⟨(HM.out.on HX1.out).blk.keeps HK2.out (by have := HLT.out; omega), HK2.out.own (HM.out.on HX1.out).own (fun g hg => by have h1 := (HM.out.own.lt g hg).1; have := HLT.out; omega), HS2.out, HLT.out⟩⟩
  obtain ⟨rfl, rfl, HKC, HMC⟩ := hcut
  have hcc := HMC.out.blk.cell
  have HDL : Hid ((ds.map I64).length ≤ 1000000) := Lib.hid (by have := HD.out; rw [List.length_map]; omega)
  have HOW : Hid (wc.ownsRow (mk + 1) 3 1 (.slice D ds.length dc) (ds.map I64).length (ds.map I64)) := Lib.hid (by rw [List.length_map]; exact HMC.out.own)
  have HBS : Hid (mk + 1 ≤ wc.heap.size) := Lib.hid HMC.out.blk.lt
  clear HCL HCH hmt HM hcm
  go_wp2_with (at_builtin; go_must (refine wpList_pushB rfl _ _ 28 rfl (mk + 1) 3 (.int .i64 0) 1 8 Tryz.underlying28 infoInt rfl (by decide) #[.int .i64 pl] rfl (.slice D ds.length dc) (ds.map I64).length (ds.map I64) rfl HOW.out (ones [.int .i64 pl] rfl) rfl HDL.out (by decide) HBS.out ?_); intro v' w5 HO5 HP5; obtain ⟨D5, c5, rfl⟩ := own_form HO5.out; have HB5 := Lib.hid (HMC.out.blk.keeps (Keeps.of_grown HP5.out.grown) (fun e => by have := (HOW.out.lt _ e).1; omega)); have hc5 := HB5.out.cell; have hf5 := HB5.out.frozen)
  have HKG := Lib.hid (Keeps.of_grown HP5.out.grown)
  have HUB : Hid (∀ b, (Value.slice D ds.length dc).ownBlock = some b → mk + 1 ≤ b) := Lib.hid fun b hb => (HOW.out.lt b hb).1
  refine hR.out _ _ ⟨rfl, ?_, ?_⟩
  · exact ((HKC.out.mono fun k _ e => .inl e).trans (HKG.out.mono fun k _ e => .inr (.inr e))).trans ((Keeps.set w5 ⟨mk, 2, none⟩ _).mono fun k _ e => .inr (.inl e))
  · have hpb := HP5.out.block
    rw [List.length_map] at hpb
    refine ⟨.slice D5 (ds.length + 1) c5, hpb.imp id (fun ⟨q, e, hq⟩ => ⟨q, e, Nat.le_trans HKC.out.size hq⟩), HB5.out.set (i := 2) _, ?_, ?_, HLT.out⟩
    · have h1 := (Keeps.set w5 ⟨mk, 2, none⟩ (.slice D5 ((ds.map I64).length + 1) c5)).own HO5.out (fun g hg => by have h1 := (HO5.out.lt g hg).1; show ¬ g = mk; omega)
      rw [List.length_append, List.length_singleton, List.map_append]
      rw [List.length_map] at h1
      exact h1
    · have hl := HLT.out
      exact (HMC.out.src.keeps HKG.out fun b hb e => by have := HUB.out b e; omega).keeps (Keeps.set w5 ⟨mk, 2, none⟩ _) fun b hb e => by have h1 : b = mk := e; omega
end Go.Proofs.YtmhdcnaibleihaaGreatDoor
