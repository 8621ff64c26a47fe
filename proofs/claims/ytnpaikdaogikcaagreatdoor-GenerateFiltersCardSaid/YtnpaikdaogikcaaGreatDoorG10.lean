/- A machine's choice, by weights. -/
import Derived.Test.YtnpaikdaogikcaaGreatDoorG09
import Derived.Deep.RegionHeld3
import Derived.Deep.CutBlock
import Derived.Deep.DeepCutAuto
import Derived.Test.YtnpaikdaogikcaaGreatDoorG02

namespace Go.Proofs.YtnpaikdaogikcaaGreatDoor
set_option maxRecDepth 100000
open Go.RowKit
set_option linter.unusedVariables false
set_option linter.unusedSimpArgs false

abbrev srcV (sb : Nat) : Value := .iface 57 (.agg #[.iface 58 (.pointer (some ⟨sb, 0, none⟩))])
abbrev macC (gb sb : Nat) (dv : Value) (steps most : Nat) : Array Value := #[.pointer (some ⟨gb, 0, none⟩), srcV sb, dv, .int .i64 steps, .int .i64 most, .int .i64 0]
/-- A machine: its grammar, its chooser, its draws, its steps. -/
structure Mac (w : World) (mk gb sb u : Nat) (l : List Int) (dv : Value) (ds : List Int) (steps most : Nat) : Prop where
  blk : Blk w mk (macC gb sb dv steps most) 89
  own : w.ownsRow (mk + 1) 3 1 dv ds.length (ds.map I64)
  src : Src w sb u l
  lt : sb < mk
abbrev KD (mk sb : Nat) (dv : Value) : Nat → Prop := fun b => b = sb ∨ b = mk ∨ dv.ownBlock = some b
/-- The row of draws is the same one, or a new one. -/
def Grew (w : World) (dv dv' : Value) : Prop := dv'.ownBlock = dv.ownBlock ∨ ∃ q, dv'.ownBlock = some q ∧ w.heap.size ≤ q
theorem Mac.on {w w' : World} {mk gb sb u : Nat} {l : List Int} {dv : Value} {ds : List Int} {steps most : Nat} (h : Mac w mk gb sb u l dv ds steps most) (hx : Ext w w') : Mac w' mk gb sb u l dv ds steps most := ⟨h.blk.on hx, own_ext h.own hx, h.src.on hx, h.lt⟩
theorem method_val {P : Program} {t : TypeId} {name : String} {K : FuncId} {fuel : Nat} {v : Value} {w : World} {fs : Array Field} (hu : P.underlying t = some (.struct fs))
    (h : (P.info? t).bind (fun i => (i.methods.find? (fun m => m.name == name)).map (fun m => (m.path, m.func))) = some (#[], some (K, false))) : (method (fuel + 1) t v name).run P w = .ok (K, v) w := by
  obtain ⟨i, hi, h⟩ := Option.bind_eq_some_iff.1 h
  obtain ⟨m, hm, h⟩ := Option.map_eq_some_iff.1 h
  simp only [Prod.mk.injEq] at h
  obtain ⟨hp, hf⟩ := h
  unfold method
  simp [typeInfo, hi, hm, hp, hf, follow, receiverAt, run_underlying hu, Place.get]
theorem meth_choose (n : Nat) (v : Value) (W : World) : (method (n + 1) 57 v "Choose").run Tryz.prog W = .ok (317, v) W :=
  method_val Tryz.underlying57 (by kernel_rfl)
set_option maxHeartbeats 4000000 in
theorem chooseM (mk gb sb u : Nat) (l ws : List Int) (A : Option Addr) (c : Nat) (dv : Value) (ds : List Int) (steps most : Nat) (w : World) (h : Mac w mk gb sb u l dv ds steps most) (hu : u < l.length) (hl : l.length ≤ 10000) (h0 : 0 ≤ l[u]) (hlt : l[u] < sumL ws)
    (hc : CellsAt w A (ws.map I64)) (hw : ∀ n ∈ ws, 1 ≤ n ∧ n ≤ 1000) (hn : ws.length ≤ 64) (hpos : 0 < ws.length) (hp : placeL ws l[u] < ws.length) (hd : ds.length ≤ 1000) :
    Calls Tryz.prog 40 #[.pointer (some ⟨mk, 0, none⟩), .int .i64 ws.length, .slice A ws.length c] w fun e w' => e = .returned (.int .i64 (placeL ws l[u])) ∧ Keeps (KD mk sb dv) w w' ∧ ∃ dv', Grew w dv dv' ∧ Mac w' mk gb sb (u + 1) l dv' (ds ++ [(placeL ws l[u] : Int)]) steps most := by
  refine of_post fun R hR => ?_
  have hcm := h.blk.cell
  obtain ⟨D, dc, rfl⟩ := own_form h.own
  have HM := Lib.hid h
  have HCL := Lib.hid (fun W (hx : Ext w W) => cloneI A ws c W (hc.ext hx) (by omega))
  have HCH := Lib.hid (fun (A' : Option Addr) (c' : Nat) (W : World) (hs : Src W sb u l) (hc' : CellsAt W A' (ws.map I64)) (hne : ∀ b o, A' = some ⟨b, o, none⟩ → b ≠ sb) => chooseC sb u l ws A' c' (.int .i64 ws.length) W hs hu hl h0 hlt hc' hne hw hn hpos)
  have hmt := fun n v W => meth_choose n v W
  have k1 : (placeL ws l[u] : Int) < ws.length := by omega
  have k2 : ¬ (ws.length : Int) ≤ placeL ws l[u] := by omega
  have k3 : (0 : Int) ≤ placeL ws l[u] := by omega
  have k4 : ((ds.length : Int) == 4096) = false := by simp; omega
  have HD := Lib.hid hd
  have HSL := Lib.hid h.src.lt
  have HLT := Lib.hid h.lt
  clear h hc hw hn hpos hp h0 hlt
  generalize placeL ws l[u] = pl at *
  generalize hnl : ws.length = n at *
  go_enter Tryz.func40, Tryz.ntmps40
  go_upto_region 6 with fail
  go_cut [7, 8] (fun s7 s8 wx => s7 = .int .i64 pl ∧ s8 = .int .i64 0 ∧ Hid (Keeps (fun b => b = sb) w wx) ∧ Hid (Mac wx mk gb sb (u + 1) l (.slice D ds.length dc) ds steps most))
  case first =>
    have hcd : w.drew.cell? ⟨mk, 1, none⟩ = some (srcV sb) := hcm 1
    go_region_held3 (fun X => X.cell? ⟨mk, 1, none⟩ = some (srcV sb)) (first | exact hcd | exact hce | exact hcf | go_keep) ((first
      | (go_at_call 13; refine (HCL.out _ ((Ext.refl' _).drewN' 1)).mono ?_; rintro e w1 ⟨⟨A', c', rfl, hc1, hb1⟩, hx⟩; have HX1 := Lib.hid (((Ext.refl' w).drewN' 1).trans' hx); have HC1 := Lib.hid hc1; have HB1 := Lib.hid hb1; have hce : w1.cell? ⟨mk, 1, none⟩ = some (srcV sb) := (HM.out.on HX1.out).blk.cell 1; clear hx hc1 hb1)
      | (go_at_call 317; refine (HCH.out _ _ _ (HM.out.src.on HX1.out) HC1.out (fun b o e => by have h1 := HB1.out b o e; have h2 := HSL.out; have h3 : w.heap.size ≤ b := h1; omega)).mono ?_; rintro e w2 ⟨rfl, hk, hs⟩; have HK2 := Lib.hid hk; have HS2 := Lib.hid hs; have hcf : w2.cell? ⟨mk, 1, none⟩ = some (srcV sb) := ((HM.out.on HX1.out).blk.keeps hk (by have := HLT.out; omega)).cell 1; clear hk hs)))
    all_goals
      go_wp2_with fail
      go_meet
      exact ⟨rfl, rfl, Lib.hid ((Keeps.of_ext HX1.out).trans HK2.out), Lib.hid ⟨(HM.out.on HX1.out).blk.keeps HK2.out (by have := HLT.out; omega), HK2.out.own (HM.out.on HX1.out).own (fun g hg => by have h1 := (HM.out.own.lt g hg).1; have := HLT.out; omega), HS2.out, HLT.out⟩⟩
  obtain ⟨rfl, rfl, HKC, HMC⟩ := hcut
  have hcc := HMC.out.blk.cell
  have HDL : Hid ((ds.map I64).length ≤ 1000000) := Lib.hid (by have := HD.out; rw [List.length_map]; omega)
  have HOW : Hid (wc.ownsRow (mk + 1) 3 1 (.slice D ds.length dc) (ds.map I64).length (ds.map I64)) := Lib.hid (by rw [List.length_map]; exact HMC.out.own)
  have HBS : Hid (mk + 1 ≤ wc.heap.size) := Lib.hid HMC.out.blk.lt
  clear HCL HCH hmt HM hcm
  go_wp2_with (at_builtin; go_must (refine wpList_pushB rfl _ _ 28 rfl (mk + 1) 3 (.int .i64 0) 1 8 Tryz.underlying28 infoInt rfl (by decide) #[.int .i64 pl] rfl (.slice D ds.length dc) (ds.map I64).length (ds.map I64) rfl HOW.out (ones [.int .i64 pl] rfl) rfl HDL.out (by decide) HBS.out ?_); intro v' w5 HO5 HP5; obtain ⟨D5, c5, rfl⟩ := own_form HO5.out; have HB5 := Lib.hid (HMC.out.blk.keeps (Keeps.of_grown HP5.out.grown) (fun e => by have := (HOW.out.lt _ e).1; omega)); have hc5 := HB5.out.cell; have hf5 := HB5.out.frozen)
  have HKG := Lib.hid (Keeps.of_grown HP5.out.grown)
  have HUB : Hid (∀ b, (Value.slice D ds.length dc).ownBlock = some b → mk + 1 ≤ b) := Lib.hid fun b hb => (HOW.out.lt b hb).1
  refine hR.out _ _ ⟨rfl, ?_, ?_⟩
  · exact ((HKC.out.mono fun k _ e => .inl e).trans (HKG.out.mono fun k _ e => .inr (.inr e))).trans ((Keeps.set w5 ⟨mk, 2, none⟩ _).mono fun k _ e => .inr (.inl e))
  · have hpb := HP5.out.block
    rw [List.length_map] at hpb
    refine ⟨.slice D5 (ds.length + 1) c5, hpb.imp id (fun ⟨q, e, hq⟩ => ⟨q, e, Nat.le_trans HKC.out.size hq⟩), HB5.out.set (i := 2) _, ?_, ?_, HLT.out⟩
    · have h1 := (Keeps.set w5 ⟨mk, 2, none⟩ (.slice D5 ((ds.map I64).length + 1) c5)).own HO5.out (fun g hg => by have h1 := (HO5.out.lt g hg).1; show ¬ g = mk; omega)
      rw [List.length_append, List.length_singleton, List.map_append]
      rw [List.length_map] at h1
      exact h1
    · have hl := HLT.out
      exact (HMC.out.src.keeps HKG.out fun b hb e => by have := HUB.out b e; omega).keeps (Keeps.set w5 ⟨mk, 2, none⟩ _) fun b hb e => by have h1 : b = mk := e; omega
end Go.Proofs.YtnpaikdaogikcaaGreatDoor

/- A choice without weights. -/
namespace Go.Proofs.YtnpaikdaogikcaaGreatDoor
set_option maxRecDepth 100000
open Go.RowKit
set_option linter.unusedVariables false
set_option linter.unusedSimpArgs false

/-- What a script tells at a place. -/
def toldAt (l : List Int) (u : Nat) : Int := l[u]?.getD 0
theorem toldAt_ok {l : List Int} {u : Nat} {bound : Int} (hr : ∀ x ∈ l, 0 ≤ x ∧ x < bound) (h1 : 1 ≤ bound) : 0 ≤ toldAt l u ∧ toldAt l u < bound := by
  unfold toldAt
  cases h : l[u]? with
  | none => exact ⟨Int.le_refl _, by show (0 : Int) < bound; omega⟩
  | some x => exact hr x (List.mem_of_getElem? h)
theorem nextAny (sb u : Nat) (l : List Int) (bound : Int) (w : World) (h : Src w sb u l) (hl : l.length ≤ 10000) (hu : u ≤ 10000) (hr : ∀ x ∈ l, 0 ≤ x ∧ x < bound) (h1 : 1 ≤ bound) (hb : bound ≤ 100000) :
    Calls Tryz.prog 319 #[.pointer (some ⟨sb, 0, none⟩), .int .i64 bound] w fun e w' => e = .returned (.int .i64 (toldAt l u)) ∧ Keeps (fun b => b = sb) w w' ∧ Src w' sb (u + 1) l := by
  by_cases hc : u < l.length
  · have e : toldAt l u = l[u] := by unfold toldAt; simp [hc]
    have hx := hr l[u] (List.getElem_mem hc)
    rw [e]
    exact nextS sb u l bound w h hc hl hx.1 hx.2 hb
  · have e : toldAt l u = 0 := by unfold toldAt; simp [hc]
    rw [e]
    exact nextS0 sb u l bound w h (by omega) hu h1 hb
set_option maxHeartbeats 1000000 in
theorem chooseC0 (sb u : Nat) (l : List Int) (bound : Int) (w : World) (h : Src w sb u l) (hl : l.length ≤ 10000) (hu : u ≤ 10000) (hr : ∀ x ∈ l, 0 ≤ x ∧ x < bound) (h1 : 1 ≤ bound) (hb : bound ≤ 100000) :
    Calls Tryz.prog 317 #[.agg #[.iface 58 (.pointer (some ⟨sb, 0, none⟩))], .int .i64 bound, .slice none 0 0] w fun e w' => e = .returned (.tuple #[.int .i64 (toldAt l u), .int .i64 0]) ∧ Keeps (fun b => b = sb) w w' ∧ Src w' sb (u + 1) l := by
  refine of_post fun R hR => ?_
  have hx := ext_al w (.cells #[.iface 58 (.pointer (some ⟨sb, 0, none⟩))] 57)
  have HNX := Lib.hid (nextAny sb u l bound _ (h.on hx) hl hu hr h1 hb)
  have HX := Lib.hid hx
  have hmt := fun n W => meth_next n sb W
  clear h hx hr h1 hb
  generalize toldAt l u = x at *
  go_enter Tryz.func317, Tryz.ntmps317
  go_wp2_with (go_at_call 319; refine HNX.out.mono ?_; rintro e w2 ⟨rfl, hk, hs⟩; have HK := Lib.hid hk; have HS2 := Lib.hid hs; clear hk hs)
  exact hR.out _ _ ⟨rfl, (Keeps.of_ext HX.out).trans HK.out, HS2.out⟩
theorem cloneNil (w : World) : Calls Tryz.prog 13 #[.slice none 0 0] w fun e w' => e = .returned (.slice none 0 0) ∧ Ext w w' := by
  refine of_post fun R hR => ?_
  have heq := fun (W : World) (a : Option Addr) (n c : Nat) => Lib.run_eql_slice_nil (P := Tryz.prog) W 28 3 a n c 0 0 Tryz.underlying28
  go_enter Tryz.func13, Tryz.ntmps13
  go_wp2_with fail
  exact hR.out _ _ ⟨rfl, Ext.refl' _⟩
set_option maxHeartbeats 4000000 in
theorem chooseM0 (mk gb sb u : Nat) (l : List Int) (bound : Int) (dv : Value) (ds : List Int) (steps most : Nat) (w : World) (h : Mac w mk gb sb u l dv ds steps most) (hl : l.length ≤ 10000) (hu : u ≤ 10000) (hr : ∀ x ∈ l, 0 ≤ x ∧ x < bound) (h1 : 1 ≤ bound) (hb : bound ≤ 100000) (hd : ds.length ≤ 1000) :
    Calls Tryz.prog 40 #[.pointer (some ⟨mk, 0, none⟩), .int .i64 bound, .slice none 0 0] w fun e w' => e = .returned (.int .i64 (toldAt l u)) ∧ Keeps (KD mk sb dv) w w' ∧ ∃ dv', Grew w dv dv' ∧ Mac w' mk gb sb (u + 1) l dv' (ds ++ [(toldAt l u : Int)]) steps most := by
  refine of_post fun R hR => ?_
  have hcm := h.blk.cell
  obtain ⟨D, dc, rfl⟩ := own_form h.own
  have HM := Lib.hid h
  have HCL := Lib.hid (fun W => cloneNil W)
  have HCH := Lib.hid (fun (W : World) (hs : Src W sb u l) => chooseC0 sb u l bound W hs hl hu hr h1 hb)
  have hmt := fun n v W => meth_choose n v W
  obtain ⟨k3, k1⟩ := toldAt_ok (u := u) hr h1
  have k2 : ¬ bound ≤ toldAt l u := by omega
  have k4 : ((ds.length : Int) == 4096) = false := by simp; omega
  have HD := Lib.hid hd
  have HSL := Lib.hid h.src.lt
  have HLT := Lib.hid h.lt
  clear h hr h1 hb hl hu hd
  generalize toldAt l u = pl at *
  go_enter Tryz.func40, Tryz.ntmps40
  go_upto_region 6 with fail
  go_cut [7, 8] (fun s7 s8 wx => s7 = .int .i64 pl ∧ s8 = .int .i64 0 ∧ Hid (Keeps (fun b => b = sb) w wx) ∧ Hid (Mac wx mk gb sb (u + 1) l (.slice D ds.length dc) ds steps most))
  case first =>
    have hcd : w.drew.cell? ⟨mk, 1, none⟩ = some (srcV sb) := hcm 1
    go_region_held3 (fun X => X.cell? ⟨mk, 1, none⟩ = some (srcV sb)) (first | exact hcd | exact hce | exact hcf | go_keep) ((first
      | (go_at_call 13; refine (HCL.out _).mono ?_; rintro e w1 ⟨rfl, hx⟩; have HX1 := Lib.hid (((Ext.refl' w).drewN' 1).trans' hx); have hce : w1.cell? ⟨mk, 1, none⟩ = some (srcV sb) := (HM.out.on HX1.out).blk.cell 1; clear hx)
      | (go_at_call 317; refine (HCH.out _ (HM.out.src.on HX1.out)).mono ?_; rintro e w2 ⟨rfl, hk, hs⟩; have HK2 := Lib.hid hk; have HS2 := Lib.hid hs; have hcf : w2.cell? ⟨mk, 1, none⟩ = some (srcV sb) := ((HM.out.on HX1.out).blk.keeps hk (by have := HLT.out; omega)).cell 1; clear hk hs)))
    all_goals
      go_wp2_with fail
      go_meet
      exact ⟨rfl, rfl, Lib.hid ((Keeps.of_ext HX1.out).trans HK2.out), Lib.hid ⟨(HM.out.on HX1.out).blk.keeps HK2.out (by have := HLT.out; omega), HK2.out.own (HM.out.on HX1.out).own (fun g hg => by have h1 := (HM.out.own.lt g hg).1; have := HLT.out; omega), HS2.out, HLT.out⟩⟩
  obtain ⟨rfl, rfl, HKC, HMC⟩ := hcut
  have hcc := HMC.out.blk.cell
  have HDL : Hid ((ds.map I64).length ≤ 1000000) := Lib.hid (by have := HD.out; rw [List.length_map]; omega)
  have HOW : Hid (wc.ownsRow (mk + 1) 3 1 (.slice D ds.length dc) (ds.map I64).length (ds.map I64)) := Lib.hid (by rw [List.length_map]; exact HMC.out.own)
  have HBS : Hid (mk + 1 ≤ wc.heap.size) := Lib.hid HMC.out.blk.lt
  clear HCL HCH hmt HM hcm
  go_wp2_with (at_builtin; go_must (refine wpList_pushB rfl _ _ 28 rfl (mk + 1) 3 (.int .i64 0) 1 8 Tryz.underlying28 infoInt rfl (by decide) #[.int .i64 pl] rfl (.slice D ds.length dc) (ds.map I64).length (ds.map I64) rfl HOW.out (ones [.int .i64 pl] rfl) rfl HDL.out (by decide) HBS.out ?_); intro v' w5 HO5 HP5; obtain ⟨D5, c5, rfl⟩ := own_form HO5.out; have HB5 := Lib.hid (HMC.out.blk.keeps (Keeps.of_grown HP5.out.grown) (fun e => by have := (HOW.out.lt _ e).1; omega)); have hc5 := HB5.out.cell; have hf5 := HB5.out.frozen)
  have HKG := Lib.hid (Keeps.of_grown HP5.out.grown)
  have HUB : Hid (∀ b, (Value.slice D ds.length dc).ownBlock = some b → mk + 1 ≤ b) := Lib.hid fun b hb => (HOW.out.lt b hb).1
  refine hR.out _ _ ⟨rfl, ?_, ?_⟩
  · exact ((HKC.out.mono fun k _ e => .inl e).trans (HKG.out.mono fun k _ e => .inr (.inr e))).trans ((Keeps.set w5 ⟨mk, 2, none⟩ _).mono fun k _ e => .inr (.inl e))
  · have hpb := HP5.out.block
    rw [List.length_map] at hpb
    refine ⟨.slice D5 (ds.length + 1) c5, hpb.imp id (fun ⟨q, e, hq⟩ => ⟨q, e, Nat.le_trans HKC.out.size hq⟩), HB5.out.set (i := 2) _, ?_, ?_, HLT.out⟩
    · have h1 := (Keeps.set w5 ⟨mk, 2, none⟩ (.slice D5 ((ds.map I64).length + 1) c5)).own HO5.out (fun g hg => by have h1 := (HO5.out.lt g hg).1; show ¬ g = mk; omega)
      rw [List.length_append, List.length_singleton, List.map_append]
      rw [List.length_map] at h1
      exact h1
    · have hl := HLT.out
      exact (HMC.out.src.keeps HKG.out fun b hb e => by have := HUB.out b e; omega).keeps (Keeps.set w5 ⟨mk, 2, none⟩ _) fun b hb e => by have h1 : b = mk := e; omega
end Go.Proofs.YtnpaikdaogikcaaGreatDoor

/- A run: a number. -/
namespace Go.Proofs.YtnpaikdaogikcaaGreatDoor
set_option maxRecDepth 100000
open Go.RowKit
set_option linter.unusedVariables false
set_option linter.unusedSimpArgs false

abbrev envZ : Array Value := #[.int .i64 0, .bool false, .int .i64 0, .string ⟨#[]⟩, .slice none 0 0, .slice none 0 0, .slice none 0 0, .slice none 0 0]
abbrev zero6a : Array Value := #[.int .i64 0, .bool false, .int .i64 0, .string ⟨#[]⟩, .slice none 0 0, .slice none 0 0]
theorem Mac.keeps {S : Nat → Prop} {w w' : World} {mk gb sb u : Nat} {l : List Int} {dv : Value} {ds : List Int} {steps most : Nat} (h : Mac w mk gb sb u l dv ds steps most) (hk : Keeps S w w') (hs : ∀ b, b ≤ mk → ¬ S b) (hd : ∀ b, dv.ownBlock = some b → ¬ S b) : Mac w' mk gb sb u l dv ds steps most :=
  ⟨h.blk.keeps hk (hs _ (Nat.le_refl _)), hk.own h.own hd, h.src.keeps hk (fun b hb => hs b (by have := h.lt; omega)), h.lt⟩
theorem Mac.step {w : World} {mk gb sb u : Nat} {l : List Int} {dv : Value} {ds : List Int} {steps most : Nat} (h : Mac w mk gb sb u l dv ds steps most) : Mac (w.setCell ⟨mk, 3, none⟩ (.int .i64 ((steps : Int) + 1))) mk gb sb u l dv ds (steps + 1) most := by
  have hk := Keeps.set w ⟨mk, 3, none⟩ (.int .i64 ((steps : Int) + 1))
  exact ⟨h.blk.set (i := 3) _, hk.own h.own (fun g hg e => by have h1 := (h.own.lt g hg).1; have h2 : g = mk := e; omega), h.src.keeps hk (fun b hb e => by have h1 : b = mk := e; have := h.lt; omega), h.lt⟩
/-- An integer's cells, wherever they lie. -/
theorem rdV_cells {p : Nat → Prop} {w : World} {n : Int} {cs : List Value} (h : RdV p w (.ofInt n) cs) : ∃ y1 y2, cs = ([.int .i64 2, .bool false, .int .i64 n, .string ⟨#[]⟩, y1, y2] : List Value) ∧ ∀ q W, RdV q W (.ofInt n) ([.int .i64 2, .bool false, .int .i64 n, .string ⟨#[]⟩, y1, y2] : List Value) := by
  simp only [RdV] at h
  obtain ⟨A, c, B, d, ics, rfl, h1, h2, h3, _, _⟩ := h
  refine ⟨.slice A 0 c, .slice B 0 d, rfl, fun q W => ?_⟩
  simp only [RdV]
  exact ⟨A, c, B, d, [], rfl, h1, h2, rfl, CellsFrom.nil _ _ _, CellsFrom.nil _ _ _⟩
/-- A number's cells. -/
theorem rdT_cells {p : Nat → Prop} {w : World} {n : Int} {cs : List Value} (h : RdT p w (tJust (.ofInt n)) cs) : ∃ nm y1 y2 y3 y4 y5 y6 y7, cs = #[.int .i64 0, nm, .int .i64 2, .bool false, .int .i64 n, .string ⟨#[]⟩, y1, y2, y3, y4, y5, y6, y7].toList ∧ ∀ q W, RdV q W (.ofInt n) ([.int .i64 2, .bool false, .int .i64 n, .string ⟨#[]⟩, y1, y2] : List Value) := by
  simp only [tJust, RdT] at h
  obtain ⟨vs, K, kc, W, wc, A, c, X, xc, Z, zc, ics, xcs, rfl, hv, _⟩ := h
  obtain ⟨y1, y2, rfl, hq⟩ := rdV_cells hv
  exact ⟨_, y1, y2, _, _, _, _, _, rfl, hq⟩
set_option maxHeartbeats 4000000 in
theorem run_just (mk gb sb u : Nat) (l : List Int) (dv : Value) (ds : List Int) (steps most : Nat) (n : Int) (nm y1 y2 y3 y4 y5 y6 y7 : Value) (hv : ∀ q W, RdV q W (.ofInt n) ([.int .i64 2, .bool false, .int .i64 n, .string ⟨#[]⟩, y1, y2] : List Value)) (w : World) (h : Mac w mk gb sb u l dv ds steps most) (hs : steps < most) (hm : most ≤ 65536) :
    Calls Tryz.prog 23 #[.pointer (some ⟨mk, 0, none⟩), .agg #[.int .i64 0, nm, .int .i64 2, .bool false, .int .i64 n, .string ⟨#[]⟩, y1, y2, y3, y4, y5, y6, y7], .agg envZ] w fun e w' => e = .returned (.agg ([.int .i64 2, .bool false, .int .i64 n, .string ⟨#[]⟩, y1, y2] : List Value).toArray) ∧ Keeps (fun b => b = mk) w w' ∧ Mac w' mk gb sb u l dv ds (steps + 1) most := by
  refine of_post fun R hR => ?_
  have hx1 := ext_al w (.cells #[.int .i64 0, nm, .int .i64 2, .bool false, .int .i64 n, .string ⟨#[]⟩, y1, y2, y3, y4, y5, y6, y7] 51)
  have hb1 := Blk.new w #[.int .i64 0, nm, .int .i64 2, .bool false, .int .i64 n, .string ⟨#[]⟩, y1, y2, y3, y4, y5, y6, y7] 51
  have hs1 : (w.alloc (.cells #[.int .i64 0, nm, .int .i64 2, .bool false, .int .i64 n, .string ⟨#[]⟩, y1, y2, y3, y4, y5, y6, y7] 51)).heap.size = w.heap.size + 1 := World.size_alloc _ _
  have hmk := h.blk.lt
  have HOL : Hid (∀ b, dv.ownBlock = some b → b < w.heap.size) := Lib.hid fun b hb => (h.own.lt b hb).2
  generalize hw1 : w.alloc (.cells #[.int .i64 0, nm, .int .i64 2, .bool false, .int .i64 n, .string ⟨#[]⟩, y1, y2, y3, y4, y5, y6, y7] 51) = w1 at *
  have hx2 := ext_al w1 (.cells envZ 92)
  have hs2 : (w1.alloc (.cells envZ 92)).heap.size = w1.heap.size + 1 := World.size_alloc _ _
  generalize hw2 : w1.alloc (.cells envZ 92) = w2 at *
  have hm3 := madeK (S := fun b => b = mk) w2 zero6a 32 (by rintro b rfl; omega)
  have hx3 := ext_al w2 (.cells zero6a 32)
  generalize hw3 : w2.alloc (.cells zero6a 32) = w3 at *
  have HW1 := Lib.hid hw1
  have HW2 := Lib.hid hw2
  have HW3 := Lib.hid hw3
  have HSZ : Hid (w1.heap.size = w.heap.size + 1 ∧ w2.heap.size = w.heap.size + 2 ∧ mk < w.heap.size) := Lib.hid ⟨hs1, by omega, hmk⟩
  have HX := Lib.hid ((hx1.trans' hx2).trans' hx3)
  have HXA := Lib.hid (hx1.trans' hx2)
  have HB := Lib.hid ((hb1.on hx2).on hx3)
  have HM := Lib.hid hm3
  have HC := Lib.hid (h.on ((hx1.trans' hx2).trans' hx3))
  have k1 : ((steps : Int) == (most : Int)) = false := by simp; omega
  have k2 : (steps : Int) + 1 ≤ 65536 := by omega
  clear h hx1 hb1 hs1 hmk hw1 hx2 hs2 hw2 hm3 hx3 hw3
  go_enter Tryz.func23, Tryz.ntmps23
  go_upto_region 1 with fail
  rw [HW1.out, HW2.out, HW3.out]
  have hcm := HC.out.blk.cell
  go_upto_region 3 with fail
  go_cut [25] (fun s wx => s = .bool false ∧ Hid (Ext w3 wx))
  case first =>
    go_region
    all_goals
      go_wp2_with fail
      go_meet
      exact ⟨rfl, Lib.hid ((Ext.refl' _).drewN' 1)⟩
  obtain ⟨rfl, HXC⟩ := hcut
  have HC2 := Lib.hid (HC.out.on HXC.out)
  have HB2 := Lib.hid (HB.out.on HXC.out)
  have HM2 := Lib.hid (HM.out.on HXC.out)
  have hcm2 := HC2.out.blk.cell
  have hfm2 := HC2.out.blk.frozen
  clear hcm HC HB HM
  go_upto_region 6 with fail
  have HC5 := Lib.hid HC2.out.step
  have HM5 := Lib.hid (HM2.out.keep (Keeps.set wc ⟨mk, 3, none⟩ (.int .i64 ((steps : Int) + 1))))
  have HB5 := Lib.hid (HB2.out.keeps (Keeps.set wc ⟨mk, 3, none⟩ (.int .i64 ((steps : Int) + 1))) (by have := HSZ.out; show ¬ w.heap.size = mk; omega))
  obtain ⟨w5, hw5⟩ : ∃ w5, wc.setCell ⟨mk, 3, none⟩ (.int .i64 ((steps : Int) + 1)) = w5 := ⟨_, rfl⟩
  rw [hw5] at HC5 HM5 HB5 ⊢
  have hcb := HB5.out.cell
  clear hw5 hcm2 hfm2
  have hpt : (Value.pointer (some ⟨w.heap.size + 1 + 1, 0, none⟩)) = .pointer (some ⟨w2.heap.size, 0, none⟩) := by rw [HSZ.out.2.1]
  rw [hpt]
  clear hpt
  go_wp2_with (first
    | (refine wpList_load_mid rfl 32 _ rfl w.heap.size 2 rfl ([.int .i64 2, .bool false, .int .i64 n, .string ⟨#[]⟩, y1, y2] : List Value) _ (HB5.out.range _ 2 (fun j v hj => by rw [Nat.add_comm]; have := (List.getElem?_eq_some_iff.1 hj).1; simpa using hj)) Tryz.underlying32 rfl info6p ?_)
    | (refine wpList_answerK (kV (.ofInt n)) rfl 32 _ _ rfl rfl HM5 rfl info6p (Lib.hid (hv (fun _ => False) _)) (Lib.hid (fun _ h => h.elim)) rfl rfl ?_; intro w9 HG HK))
  refine GivenK.fin HG Tryz.results23 rfl _ Tryz.underlying32 rfl info6p rfl fun h9 => hR.out _ _ ⟨rfl, (Keeps.of_ext HXA.out).trans h9.2, HC5.out.keeps HK.out (fun b hb e => by have h1 : b = w2.heap.size := e; have := HSZ.out; omega) (fun b hb e => by have h1 : b = w2.heap.size := e; have := HOL.out b hb; have := HSZ.out; omega)⟩
end Go.Proofs.YtnpaikdaogikcaaGreatDoor
