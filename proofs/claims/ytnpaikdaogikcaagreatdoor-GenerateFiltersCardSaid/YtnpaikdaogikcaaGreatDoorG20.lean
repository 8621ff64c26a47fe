/- A machine that fails; a struct stored into the midst of a block. -/
import Derived.Test.YtnpaikdaogikcaaGreatDoorG10
import Derived.Test.YtnpaikdaogikcaaGreatDoorG12
import Derived.Test.YtnpaikdaogikcaaGreatDoorG19
import Derived.Test.YtnpaikdaogikcaaGreatDoorG15

namespace Go.Proofs.YtnpaikdaogikcaaGreatDoor
set_option maxRecDepth 100000
open Go.RowKit
set_option linter.unusedVariables false
set_option linter.unusedSimpArgs false

section
variable {P : Program}
theorem wpList_store_mid {ops : Array Oper} {rest : List Oper} {op : Oper} {a : Act} {w : World} {Q : Exit → Act → World → Prop} (hgd : op.guard = none) (ty : TypeId) (x v : Operand) (ho : op.op = .store ty x v) (hd : op.dst = none)
    (b o : Nat) (cur cs : Array Value) (t : TypeId) (hb : Blk w b cur t) (hx : a.eval x = .pointer (some ⟨b, o, none⟩)) (hv : a.eval v = .agg cs) (hi : (P.info? ty).map (·.size) = some cs.size) (hle : o + cs.size ≤ cur.size)
    (h1 : ∀ u ∈ cs.toList, u.oneCell' = true) (h : ∀ w', Hid (Blk w' b (spliceV cur o cs) t) → Hid (Keeps (fun x => x = b) w w') → wpList P ops Q rest a w') : wpList P ops Q (op :: rest) a w :=
  wpList_plain hgd fun K hK => by
    obtain ⟨i, hq, hs⟩ := Option.map_eq_some_iff.1 hi
    have hst := run_storeCells_at (P := P) b o t cs.toList 0 cur w hb (by simp; omega) h1
    change _ = Result.ok _ (w.setRow b (spliceV cur o cs)) at hst
    generalize spliceV cur o cs = sp at *
    unfold Oper.wp execOp
    have hc : (Value.agg cs).cells = cs := rfl
    have hsz : ∀ w' : World, (sizeOf ty).run P w' = .ok cs.size w' := fun w' => by simp [sizeOf, typeInfo, hq, hs]
    simp only [ho, hx, hv, Instr.storeAt, Instr.sureAddr, storeVar, Sem.run_bind, Sem.run_pure, Result.andThen_ok, hsz, hc, ne_eq, not_true_eq_false, if_false, hst]
    have := hK a _ (h _ (Lib.hid (hb.put _)) (Lib.hid (keeps_put w b _)))
    simpa [Oper.upon, hd, Act.put] using this
end
/-- A machine that has failed: there is no such value. -/
structure MacF (w : World) (mk gb sb u : Nat) (l : List Int) (dv : Value) (steps most : Nat) : Prop where
  blk : Blk w mk #[.pointer (some ⟨gb, 0, none⟩), srcV sb, dv, .int .i64 steps, .int .i64 most, .int .i64 20] 89
  src : Src w sb u l
  lt : sb < mk
theorem MacF.keeps {S : Nat → Prop} {w w' : World} {mk gb sb u : Nat} {l : List Int} {dv : Value} {steps most : Nat} (h : MacF w mk gb sb u l dv steps most) (hk : Keeps S w w') (hs : ∀ b, b ≤ mk → ¬ S b) : MacF w' mk gb sb u l dv steps most :=
  ⟨h.blk.keeps hk (hs _ (Nat.le_refl _)), h.src.keeps hk (fun b hb => hs b (by have := h.lt; omega)), h.lt⟩
set_option maxHeartbeats 2000000 in
theorem failM (mk gb sb u : Nat) (l : List Int) (dv : Value) (ds : List Int) (steps most : Nat) (w : World) (h : Mac w mk gb sb u l dv ds steps most) :
    Calls Tryz.prog 37 #[.pointer (some ⟨mk, 0, none⟩), .int .i64 20] w fun e w' => e = .returned (.agg zero6a) ∧ Keeps (fun b => b = mk) w w' ∧ MacF w' mk gb sb u l dv steps most := by
  refine of_post fun R hR => ?_
  have hm := h.blk.lt
  have hx := ext_al w (.cells zero6a 32)
  have HM := Lib.hid (h.on hx)
  have HM0 := Lib.hid h
  have hcm := HM.out.blk.cell
  have hfm := HM.out.blk.frozen
  have HMK : Hid (mk < w.heap.size) := Lib.hid hm
  clear h hx
  go_enter Tryz.func37, Tryz.ntmps37
  go_upto_region 3 with fail
  go_wp2_with fail
  have HKS := Lib.hid (Keeps.set w ⟨mk, 5, none⟩ (.int .i64 20))
  have hx := ext_al (w.setCell ⟨mk, 5, none⟩ (.int .i64 20)) (.cells zero6a 32)
  have HB := Lib.hid (Blk.new (w.setCell ⟨mk, 5, none⟩ (.int .i64 20)) zero6a 32)
  rw [World.size_setCell] at HB
  have HMB : Hid (Blk (w.setCell ⟨mk, 5, none⟩ (.int .i64 20)) mk #[.pointer (some ⟨gb, 0, none⟩), srcV sb, dv, .int .i64 steps, .int .i64 most, .int .i64 20] 89) := Lib.hid (HM0.out.blk.set (i := 5) _)
  have HSS := Lib.hid (HM0.out.src.keeps HKS.out (fun b hb e => by have h1 : b = mk := e; have := HM0.out.lt; omega))
  have hcl := HB.out
  refine bodyPost_ret (v := .agg zero6a) (results_cell Tryz.results37 hcl rfl _ Tryz.underlying32 rfl info6p) rfl (hR.out _ _ ⟨rfl, HKS.out.trans (Keeps.of_ext hx), MacF.keeps (S := fun _ => False) ⟨HMB.out, HSS.out, HM0.out.lt⟩ (Keeps.of_ext hx) (fun _ _ e => e)⟩)
end Go.Proofs.YtnpaikdaogikcaaGreatDoor

/- A run: a number of a span, if it passes. -/
namespace Go.Proofs.YtnpaikdaogikcaaGreatDoor
set_option maxRecDepth 100000
open Go.RowKit
set_option linter.unusedVariables false
set_option linter.unusedSimpArgs false

theorem sto_hideW {x y : Value} : Instr.storeAt 32 x y = storeHid 32 x y := rfl
/-- What a run of a filter leaves: the number, or no value and an error. -/
def Passed (v : Int) (tt : Bool) (mk gb sb u : Nat) (l : List Int) (dv : Value) (ds : List Int) (steps most : Nat) (e : Ending) (w' : World) : Prop :=
  (tt = true → e = .returned (.agg (cellsInt v).toArray) ∧ Mac w' mk gb sb u l dv ds steps most) ∧ (tt = false → e = .returned (.agg zero6a) ∧ MacF w' mk gb sb u l dv steps most)
attribute [local go_sem ↓ 2000] sto_hideW
set_option maxHeartbeats 8000000 in
theorem run_filter (x : E) (tt : Bool) (v : Int) (lo hi : Int) (h0 : 0 ≤ lo) (h1 : lo ≤ hi) (h2 : hi ≤ 10000) (mk gb sb u : Nat) (l : List Int) (hv : v = lo + toldAt l u) (hT : TV x (envG 2 false v ⟨#[]⟩ none 0 0 none 0 0) tt) (dv : Value) (ds : List Int) (steps most : Nat)
    (x1 x5 : ByteArray) (x2 x4 : Int) (x3 : Bool) (x6 x9 z3 z6 z9 : Option Addr) (x7 x8 z1 z2 z4 z5 z7 z8 q1 q2 b o pc bX oX xcap : Nat)
    (p1 p5 : ByteArray) (p2 p4 : Int) (p3 : Bool) (p6 p9 r3 r6 s1 s4 : Option Addr) (p7 p8 r1 r2 r4 r5 r7 r8 s2 s3 s5 s6 : Nat) (X : Option Addr) (xc : Nat)
    (xo xm : ByteArray) (xk : Int) (xb : Bool) (xn : Int) (xs : ByteArray) (xA : Option Addr) (xla xc' : Nat) (xB : Option Addr) (xlb xd : Nat) (xC : Option Addr) (xlc xe : Nat)
    (p : Nat → Prop) (hp : ∀ b, p b → b < sb) (xcs : List (List Value)) (w : World)
    (hes : RdEs p w [lit (.ofInt lo), lit (.ofInt hi)] xcs) (hcf : CellsFrom p w X xcs.flatten) (hb : b < sb) (hbX : bX < sb)
    (hpart : w.rangeAt b o (#[.int .i64 1, .string p1, .int .i64 p2, .bool p3, .int .i64 p4, .string p5, .slice p6 p7 p8, .slice p9 r1 r2, .slice r3 r4 r5, .slice r6 r7 r8, .slice s1 s2 s3, .slice X 2 xc, .slice s4 s5 s6]).toList) (hex : w.rangeAt bX oX (X9 xo xm xk xb xn xs xA xla xc' xB xlb xd xC xlc xe).toList) (hxE : RdE p w x (X9 xo xm xk xb xn xs xA xla xc' xB xlb xd xC xlc xe).toList)
    (h : Mac w mk gb sb u l dv ds steps most) (hs : steps + 1 < most) (hm : most ≤ 65536) (hl : l.length ≤ 10000) (hu : u ≤ 10000) (hr : ∀ x ∈ l, 0 ≤ x ∧ x < hi - lo + 1) (hd : ds.length ≤ 1000) :
    Calls Tryz.prog 23 #[.pointer (some ⟨mk, 0, none⟩), .agg #[.int .i64 9, .string x1, .int .i64 x2, .bool x3, .int .i64 x4, .string x5, .slice x6 x7 x8, .slice x9 z1 z2, .slice z3 z4 z5, .slice z6 z7 z8, .slice (some ⟨b, o, none⟩) 1 pc, .slice (some ⟨bX, oX, none⟩) 1 xcap, .slice z9 q1 q2], .agg envZ] w fun e w' => Keeps (KD mk sb dv) w w' ∧ ∃ dv', Grew w dv dv' ∧ Passed v tt mk gb sb (u + 1) l dv' (ds ++ [toldAt l u]) (steps + 2) most e w' := by
  refine of_post fun R hR => ?_
  have hx1 := ext_al w (.cells #[.int .i64 9, .string x1, .int .i64 x2, .bool x3, .int .i64 x4, .string x5, .slice x6 x7 x8, .slice x9 z1 z2, .slice z3 z4 z5, .slice z6 z7 z8, .slice (some ⟨b, o, none⟩) 1 pc, .slice (some ⟨bX, oX, none⟩) 1 xcap, .slice z9 q1 q2] 51)
  have hb1 := Blk.new w #[.int .i64 9, .string x1, .int .i64 x2, .bool x3, .int .i64 x4, .string x5, .slice x6 x7 x8, .slice x9 z1 z2, .slice z3 z4 z5, .slice z6 z7 z8, .slice (some ⟨b, o, none⟩) 1 pc, .slice (some ⟨bX, oX, none⟩) 1 xcap, .slice z9 q1 q2] 51
  have hs1 : (w.alloc (.cells #[.int .i64 9, .string x1, .int .i64 x2, .bool x3, .int .i64 x4, .string x5, .slice x6 x7 x8, .slice x9 z1 z2, .slice z3 z4 z5, .slice z6 z7 z8, .slice (some ⟨b, o, none⟩) 1 pc, .slice (some ⟨bX, oX, none⟩) 1 xcap, .slice z9 q1 q2] 51)).heap.size = w.heap.size + 1 := World.size_alloc _ _
  have hmk := h.blk.lt
  have HLT := Lib.hid h.lt
  have HOL : Hid (∀ b, dv.ownBlock = some b → b < w.heap.size ∧ mk < b) := Lib.hid fun b hb => ⟨(h.own.lt b hb).2, (h.own.lt b hb).1⟩
  generalize hw1 : w.alloc (.cells #[.int .i64 9, .string x1, .int .i64 x2, .bool x3, .int .i64 x4, .string x5, .slice x6 x7 x8, .slice x9 z1 z2, .slice z3 z4 z5, .slice z6 z7 z8, .slice (some ⟨b, o, none⟩) 1 pc, .slice (some ⟨bX, oX, none⟩) 1 xcap, .slice z9 q1 q2] 51) = w1 at *
  have hx2 := ext_al w1 (.cells envZ 92)
  have hb2 := Blk.new w1 envZ 92
  have hs2 : (w1.alloc (.cells envZ 92)).heap.size = w1.heap.size + 1 := World.size_alloc _ _
  rw [hs1] at hb2
  generalize hw2 : w1.alloc (.cells envZ 92) = w2 at *
  have hx3 := ext_al w2 (.cells zero6a 32)
  have hb3 := Blk.new w2 zero6a 32
  generalize hw3 : w2.alloc (.cells zero6a 32) = w3 at *
  have HW1 := Lib.hid hw1
  have HW2 := Lib.hid hw2
  have HW3 := Lib.hid hw3
  have HSZ : Hid (w1.heap.size = w.heap.size + 1 ∧ w2.heap.size = w.heap.size + 2 ∧ mk < w.heap.size ∧ sb < mk ∧ b < sb ∧ bX < sb) := Lib.hid ⟨hs1, by omega, hmk, HLT.out, hb, hbX⟩
  have HX := Lib.hid ((hx1.trans' hx2).trans' hx3)
  have HB := Lib.hid ((hb1.on hx2).on hx3)
  have HE := Lib.hid (hb2.on hx3)
  have HR3 := Lib.hid hb3
  have HC := Lib.hid (h.on ((hx1.trans' hx2).trans' hx3))
  have HES := Lib.hid hes
  have HCF := Lib.hid hcf
  have HPB := Lib.hid hp
  have HPT := Lib.hid hpart
  have HEX := Lib.hid hex
  have HXE := Lib.hid hxE
  have HTT := Lib.hid hT
  have HVV := Lib.hid hv
  have k1 : ((steps : Int) == (most : Int)) = false := by simp; omega
  have k2 : (steps : Int) + 1 ≤ 65536 := by omega
  clear h hx1 hb1 hs1 hmk hw1 hx2 hs2 hw2 hx3 hw3 hb2 hb3 hes hcf hp hpart hex hxE hT hv hb hbX
  go_enter Tryz.func23, Tryz.ntmps23
  go_upto_region 1 with fail
  rw [HW1.out, HW2.out, HW3.out]
  have hcm := HC.out.blk.cell
  go_upto_region 3 with fail
  go_cut [25] (fun s wx => s = .bool false ∧ Hid (Ext w3 wx))
  case first =>
    go_region
    all_goals
      go_wp2_with fail
      go_meet
      exact ⟨rfl, Lib.hid ((Ext.refl' _).drewN' 1)⟩
  obtain ⟨rfl, HXC⟩ := hcut
  have HC2 := Lib.hid (HC.out.on HXC.out)
  have HB2 := Lib.hid (HB.out.on HXC.out)
  have HE2 := Lib.hid (HE.out.on HXC.out)
  have HR2 := Lib.hid (HR3.out.on HXC.out)
  have hcm2 := HC2.out.blk.cell
  have hfm2 := HC2.out.blk.frozen
  clear hcm HC HB HE HR3
  go_upto_region 6 with fail
  have HKS := Lib.hid (Keeps.set wc ⟨mk, 3, none⟩ (.int .i64 ((steps : Int) + 1)))
  have HC5 := Lib.hid HC2.out.step
  have HB5 := Lib.hid (HB2.out.keeps HKS.out (by have := HSZ.out; show ¬ w.heap.size = mk; omega))
  have HE5 := Lib.hid (HE2.out.keeps HKS.out (by have := HSZ.out; show ¬ w.heap.size + 1 = mk; omega))
  have HR5 := Lib.hid (HR2.out.keeps HKS.out (by have := HSZ.out; show ¬ w2.heap.size = mk; omega))
  obtain ⟨w5, hw5⟩ : ∃ w5, wc.setCell ⟨mk, 3, none⟩ (.int .i64 ((steps : Int) + 1)) = w5 := ⟨_, rfl⟩
  rw [hw5] at HC5 HB5 HE5 HR5 HKS ⊢
  have hcb := HB5.out.cell
  clear hw5 hcm2 hfm2
  have HK5 : Hid (Keeps (fun x => x = mk) w w5) := Lib.hid ((Keeps.of_ext (HX.out.trans' HXC.out)).trans HKS.out)
  have HSZ5 : Hid (w2.heap.size < w5.heap.size) := Lib.hid HR5.out.lt
  have HMV : Hid (∀ A cs, CellsFrom p w A cs → CellsFrom p w5 A cs) := Lib.hid fun A cs hc => hc.keeps HK5.out fun b hb e => by have := HPB.out b hb; have h1 : b = mk := e; have := HSZ.out; omega
  have HKD : Hid (∀ x, KD mk sb dv x → x < w.heap.size ∧ sb ≤ x) := Lib.hid fun x e => by
    have hsz := HSZ.out
    rcases e with e | e | e
    · omega
    · omega
    · have := HOL.out x e; omega
  have HRN := Lib.hid (fun (W : World) (hx : Ext w5 W) => run_range lo hi h0 h1 h2 mk gb sb u l dv ds (steps + 1) most p1 p5 p2 p4 p3 p6 p9 r3 r6 s1 s4 p7 p8 r1 r2 r4 r5 r7 r8 s2 s3 s5 s6 X xc p HPB.out xcs W (RdEs.move (fun A cs hc => (HMV.out A cs hc).ext hx) _ _ HES.out) ((HMV.out _ _ HCF.out).ext hx) (HC5.out.on hx) hs hm hl hu hr hd)
  rw [← HVV.out] at HRN
  have HFL := Lib.hid (fun (W : World) (dv' : Value) hm' => failM mk gb sb (u + 1) l dv' (ds ++ [toldAt l u]) (steps + 2) most W hm')
  have HS30 : Hid (∀ X', Keeps (fun x => KD mk sb dv x ∨ w5.heap.size ≤ x) w5 X' → X'.cell? ⟨w.heap.size, 10, none⟩ = some (.slice (some ⟨b, o, none⟩) 1 pc) ∧ X'.cell? ⟨b, o, none⟩ = some (.int .i64 1) ∧ X'.cell? ⟨b, o + 1, none⟩ = some (.string p1) ∧ X'.cell? ⟨b, o + 2, none⟩ = some (.int .i64 p2) ∧ X'.cell? ⟨b, o + 3, none⟩ = some (.bool p3) ∧ X'.cell? ⟨b, o + 4, none⟩ = some (.int .i64 p4) ∧ X'.cell? ⟨b, o + 5, none⟩ = some (.string p5) ∧ X'.cell? ⟨b, o + 6, none⟩ = some (.slice p6 p7 p8) ∧ X'.cell? ⟨b, o + 7, none⟩ = some (.slice p9 r1 r2) ∧ X'.cell? ⟨b, o + 8, none⟩ = some (.slice r3 r4 r5) ∧ X'.cell? ⟨b, o + 9, none⟩ = some (.slice r6 r7 r8) ∧ X'.cell? ⟨b, o + 10, none⟩ = some (.slice s1 s2 s3) ∧ X'.cell? ⟨b, o + 11, none⟩ = some (.slice X 2 xc) ∧ X'.cell? ⟨b, o + 12, none⟩ = some (.slice s4 s5 s6) ∧ X'.cell? ⟨w.heap.size + 1, 0, none⟩ = some (.int .i64 0) ∧ X'.cell? ⟨w.heap.size + 1, 1, none⟩ = some (.bool false) ∧ X'.cell? ⟨w.heap.size + 1, 2, none⟩ = some (.int .i64 0) ∧ X'.cell? ⟨w.heap.size + 1, 3, none⟩ = some (.string ⟨#[]⟩) ∧ X'.cell? ⟨w.heap.size + 1, 4, none⟩ = some (.slice none 0 0) ∧ X'.cell? ⟨w.heap.size + 1, 5, none⟩ = some (.slice none 0 0) ∧ X'.cell? ⟨w.heap.size + 1, 6, none⟩ = some (.slice none 0 0) ∧ X'.cell? ⟨w.heap.size + 1, 7, none⟩ = some (.slice none 0 0)) := Lib.hid fun X' hk => by
    have hsz := HSZ.out
    have hs5 := HSZ5.out
    have hB := (HB5.out.keeps hk (fun e => by rcases e with e | e; · have := HKD.out _ e; omega
                                              · omega)).cell
    have hE := (HE5.out.keeps hk (fun e => by rcases e with e | e; · have := HKD.out _ e; omega
                                              · omega)).cell
    have hP : ∀ j v, (#[.int .i64 1, .string p1, .int .i64 p2, .bool p3, .int .i64 p4, .string p5, .slice p6 p7 p8, .slice p9 r1 r2, .slice r3 r4 r5, .slice r6 r7 r8, .slice s1 s2 s3, .slice X 2 xc, .slice s4 s5 s6]).toList[j]? = some v → X'.cell? ⟨b, o + j, none⟩ = some v := fun j v hj => hk.cell (fun e => by
      rcases e with e | e
      · have h3 := (HKD.out b e).2; omega
      · have h3 : w5.heap.size ≤ b := e; omega) (HK5.out.cell (by show ¬ b = mk; omega) (HPT.out j v hj))
    exact ⟨hB 10, hP 0 _ rfl, hP 1 _ rfl, hP 2 _ rfl, hP 3 _ rfl, hP 4 _ rfl, hP 5 _ rfl, hP 6 _ rfl, hP 7 _ rfl, hP 8 _ rfl, hP 9 _ rfl, hP 10 _ rfl, hP 11 _ rfl, hP 12 _ rfl, hE 0, hE 1, hE 2, hE 3, hE 4, hE 5, hE 6, hE 7⟩
  clear hr h0 h1 h2 HMV
  go_upto_region 30 with fail
  clear hcb
  have hcd := HS30.out w5.drew (Keeps.of_ext ((Ext.refl' w5).drewN' 1))
  have hca := HS30.out (w5.drew.alloc (.cells zero6a 32)) (Keeps.of_ext (((Ext.refl' w5).drewN' 1).alloc' _))
  go_region_held3 (fun X' => X'.cell? ⟨w.heap.size, 10, none⟩ = some (.slice (some ⟨b, o, none⟩) 1 pc) ∧ X'.cell? ⟨b, o, none⟩ = some (.int .i64 1) ∧ X'.cell? ⟨b, o + 1, none⟩ = some (.string p1) ∧ X'.cell? ⟨b, o + 2, none⟩ = some (.int .i64 p2) ∧ X'.cell? ⟨b, o + 3, none⟩ = some (.bool p3) ∧ X'.cell? ⟨b, o + 4, none⟩ = some (.int .i64 p4) ∧ X'.cell? ⟨b, o + 5, none⟩ = some (.string p5) ∧ X'.cell? ⟨b, o + 6, none⟩ = some (.slice p6 p7 p8) ∧ X'.cell? ⟨b, o + 7, none⟩ = some (.slice p9 r1 r2) ∧ X'.cell? ⟨b, o + 8, none⟩ = some (.slice r3 r4 r5) ∧ X'.cell? ⟨b, o + 9, none⟩ = some (.slice r6 r7 r8) ∧ X'.cell? ⟨b, o + 10, none⟩ = some (.slice s1 s2 s3) ∧ X'.cell? ⟨b, o + 11, none⟩ = some (.slice X 2 xc) ∧ X'.cell? ⟨b, o + 12, none⟩ = some (.slice s4 s5 s6) ∧ X'.cell? ⟨w.heap.size + 1, 0, none⟩ = some (.int .i64 0) ∧ X'.cell? ⟨w.heap.size + 1, 1, none⟩ = some (.bool false) ∧ X'.cell? ⟨w.heap.size + 1, 2, none⟩ = some (.int .i64 0) ∧ X'.cell? ⟨w.heap.size + 1, 3, none⟩ = some (.string ⟨#[]⟩) ∧ X'.cell? ⟨w.heap.size + 1, 4, none⟩ = some (.slice none 0 0) ∧ X'.cell? ⟨w.heap.size + 1, 5, none⟩ = some (.slice none 0 0) ∧ X'.cell? ⟨w.heap.size + 1, 6, none⟩ = some (.slice none 0 0) ∧ X'.cell? ⟨w.heap.size + 1, 7, none⟩ = some (.slice none 0 0)) (first | exact hcd | exact hca | exact hce | exact hcg | exact hcf | go_keep) ((first
    | (go_at_call 23; refine (HRN.out _ (by first | exact (((Ext.refl' w5).drewN' 1).alloc' _) | exact ((Ext.refl' w5).drewN' 1))).mono ?_; rintro e w7 ⟨rfl, hk, dv', hg, hm7⟩; have HK7 : Hid (Keeps (KD mk sb dv) w5 w7) := Lib.hid (by first | exact (Keeps.of_ext (((Ext.refl' w5).drewN' 1).alloc' _)).trans hk | exact (Keeps.of_ext ((Ext.refl' w5).drewN' 1)).trans hk); (try have HBA : Hid (Blk w7 w5.heap.size zero6a 32 ∧ (dv'.ownBlock = dv.ownBlock ∨ ∃ q, dv'.ownBlock = some q ∧ w5.heap.size < q)) := Lib.hid ⟨(Blk.new w5.drew zero6a 32).keeps hk (fun e => by have := HKD.out _ e; have h3 : w5.drew.heap.size = w5.heap.size := rfl; have := HSZ5.out; have := HSZ.out; omega), hg.imp id fun ⟨q, e, hq⟩ => ⟨q, e, by have h9 : (w5.alloc (.cells zero6a 32)).heap.size ≤ q := hq; rw [World.size_alloc] at h9; omega⟩⟩); have HG7 : Hid (dv'.ownBlock = dv.ownBlock ∨ ∃ q, dv'.ownBlock = some q ∧ w5.heap.size ≤ q) := Lib.hid (hg.imp id fun ⟨q, e, hq⟩ => ⟨q, e, by first | exact hq | (have h9 : (w5.alloc (.cells zero6a 32)).heap.size ≤ q := hq; rw [World.size_alloc] at h9; omega)⟩); have HM7 := Lib.hid hm7; have HBB := Lib.hid (Blk.new w7 zero6a 32); have hce := HS30.out w7 (HK7.out.mono fun x _ e => .inl e); have hcg := HS30.out (w7.alloc (.cells zero6a 32)) ((HK7.out.trans (Keeps.of_ext (ext_al w7 _))).mono fun x _ e => .inl e); clear hk hg hm7)
    | (refine upon_storeG _ 0 zero6a (cellsInt v).toArray (Lib.hid HBA.out.1) rfl info6p (by simp) rfl (by simp [Value.oneCell']) ?_; intro w8 HB8 HK8; have HK78 := Lib.hid HK8.out; have HK58 : Hid (Keeps (fun x => KD mk sb dv x ∨ w5.heap.size ≤ x) w5 w8) := Lib.hid ((HK7.out.mono fun x _ e => .inl e).trans (HK8.out.mono fun x _ e => .inr (by have h3 : x = w5.heap.size := e; omega))); have HG8 : Hid (∀ x, x = w5.heap.size → dv'.ownBlock ≠ some x ∧ w5.heap.size ≤ x) := Lib.hid (by
        rintro x rfl
        refine ⟨fun e => ?_, Nat.le_refl _⟩
        rcases HBA.out.2 with h3 | ⟨q, h3, hq⟩
        · have h4 := HOL.out _ (h3.symm.trans e); have := HSZ5.out; have := HSZ.out; omega
        · have h4 := h3.symm.trans e; injection h4 with h4; omega); have hcf := HS30.out w8 HK58.out)
    | (refine upon_storeG _ 0 zero6a (cellsInt v).toArray HBB rfl info6p (by simp) rfl (by simp [Value.oneCell']) ?_; intro w8 HB8 HK8; have HK78 : Hid (Keeps (fun x => x = w7.heap.size) w7 w8) := Lib.hid (((Keeps.of_ext (ext_al w7 _)).mono fun x _ e => (e : False).elim).trans HK8.out); have HK58 : Hid (Keeps (fun x => KD mk sb dv x ∨ w5.heap.size ≤ x) w5 w8) := Lib.hid (((HK7.out.trans (Keeps.of_ext (ext_al w7 _))).mono fun x _ e => .inl e).trans (HK8.out.mono fun x _ e => .inr (by have h3 : x = w7.heap.size := e; have := HK7.out.size; omega))); have HG8 : Hid (∀ x, x = w7.heap.size → dv'.ownBlock ≠ some x ∧ w5.heap.size ≤ x) := Lib.hid (by
        rintro x rfl
        refine ⟨fun e => ?_, HK7.out.size⟩
        have h3 := (HM7.out.own.lt _ e).2
        omega); have hcf := HS30.out w8 HK58.out)))
  all_goals
    have HBX : Hid (Blk w8 _ (cellsInt v).toArray 32) := Lib.hid HB8.out
    have hsz := HSZ.out
    have hs5 := HSZ5.out
    have HSV : Hid (w2.heap.size = w.heap.size + 2 ∧ mk < w.heap.size ∧ sb < mk ∧ b < sb ∧ bX < sb ∧ w2.heap.size < w5.heap.size) := Lib.hid ⟨hsz.2.1, hsz.2.2.1, hsz.2.2.2.1, hsz.2.2.2.2.1, hsz.2.2.2.2.2, hs5⟩
    have HM8 := Lib.hid (HM7.out.keeps HK78.out (fun x hx e => by have h3 := (HG8.out x e).2; omega) (fun x hx e => (HG8.out x e).1 hx))
    have HN8 : Hid (∀ x, w.heap.size ≤ x → x ≤ w2.heap.size → ¬ (KD mk sb dv x ∨ w5.heap.size ≤ x)) := Lib.hid fun x hx1 hx2 e => by
      have := HSV.out
      rcases e with e | e
      · have := (HKD.out x e).1; omega
      · omega
    have HE8 := Lib.hid (HE5.out.keeps HK58.out (HN8.out _ (by omega) (by omega)))
    have HB85 := Lib.hid (HB5.out.keeps HK58.out (HN8.out _ (by omega) (by omega)))
    have HR8 := Lib.hid (HR5.out.keeps HK58.out (HN8.out _ (by omega) (by omega)))
    have HVN : Hid (¬ _ = w.heap.size + 1) := Lib.hid (fun e => by have h3 := (HG8.out _ rfl).2; have := HSV.out; have h4 := Nat.le_trans h3 (Nat.le_of_eq e); omega)
    have HVE := Lib.hid ((HG8.out _ rfl).2)
    clear hsz hs5 hcd hca hce hcg hcf HS30
    go_upto_region 32 with (first
      | (refine wpList_load_blk rfl 32 _ rfl _ _ _ HBX.out rfl _ Tryz.underlying32 rfl info6p ?_)
      | (refine wpList_store_mid rfl 32 _ _ rfl rfl (w.heap.size + 1) 0 envZ (cellsInt v).toArray 92 HE8.out rfl rfl info6p (by simp) (by simp [Value.oneCell']) ?_; intro w9 HE9 HK9))
    have HV9 := Lib.hid (HBX.out.keeps HK9.out (fun e => by have h3 : _ = w.heap.size + 1 := e; have h4 := HVE.out; have := HSV.out; omega))
    have HM9 := Lib.hid (HM8.out.keeps HK9.out (fun x hx e => by have h3 : x = w.heap.size + 1 := e; have := HSV.out; omega) (fun x hx e => by
      have h3 : x = w.heap.size + 1 := e
      have := HSV.out
      rcases HG7.out with h4 | ⟨q, h4, hq⟩
      · have := (HOL.out x (h4.symm.trans hx)).1; omega
      · have h5 := h4.symm.trans hx; injection h5 with h5; omega))
    have HB9 := Lib.hid (HB85.out.keeps HK9.out (by show ¬ w.heap.size = w.heap.size + 1; omega))
    have HR9 := Lib.hid (HR8.out.keeps HK9.out (by have := HSV.out; show ¬ w2.heap.size = w.heap.size + 1; omega))
    have HK09 : Hid (Keeps (fun x => KD mk sb dv x ∨ w.heap.size ≤ x) w w9) := Lib.hid (((HK5.out.mono fun x _ e => .inl (.inr (.inl e))).trans (HK58.out.mono fun x _ e => e.imp id fun e => by have := HSV.out; omega)).trans (HK9.out.mono fun x _ e => .inr (by have h3 : x = w.heap.size + 1 := e; omega)))
    have HBN : Hid (∀ b', b' < sb → ¬ (KD mk sb dv b' ∨ w.heap.size ≤ b')) := Lib.hid fun b' hb' e => by
      have := HSV.out
      rcases e with e | e
      · have := (HKD.out b' e).2; omega
      · omega
    have HHD := Lib.hid (fun (W : World) (hx : Ext w9 W) => holdsE x (envG 2 false v ⟨#[]⟩ none 0 0 none 0 0) rfl tt HTT.out p W (X9 xo xm xk xb xn xs xA xla xc' xB xlb xd xC xlc xe) (RdE.move (fun A cs hc => (hc.keeps HK09.out (fun b' hb' => HBN.out b' (HPB.out b' hb'))).ext hx) _ _ HXE.out))
    have HS32 : Hid (∀ X', Ext w9 X' → X'.cell? ⟨w.heap.size, 11, none⟩ = some (.slice (some ⟨bX, oX, none⟩) 1 xcap) ∧ X'.cell? ⟨bX, oX, none⟩ = some (.string xo) ∧ X'.cell? ⟨bX, oX + 1, none⟩ = some (.string xm) ∧ X'.cell? ⟨bX, oX + 2, none⟩ = some (.int .i64 xk) ∧ X'.cell? ⟨bX, oX + 3, none⟩ = some (.bool xb) ∧ X'.cell? ⟨bX, oX + 4, none⟩ = some (.int .i64 xn) ∧ X'.cell? ⟨bX, oX + 5, none⟩ = some (.string xs) ∧ X'.cell? ⟨bX, oX + 6, none⟩ = some (.slice xA xla xc') ∧ X'.cell? ⟨bX, oX + 7, none⟩ = some (.slice xB xlb xd) ∧ X'.cell? ⟨bX, oX + 8, none⟩ = some (.slice xC xlc xe) ∧ X'.cell? ⟨w.heap.size + 1, 0, none⟩ = some (.int .i64 2) ∧ X'.cell? ⟨w.heap.size + 1, 1, none⟩ = some (.bool false) ∧ X'.cell? ⟨w.heap.size + 1, 2, none⟩ = some (.int .i64 v) ∧ X'.cell? ⟨w.heap.size + 1, 3, none⟩ = some (.string ⟨#[]⟩) ∧ X'.cell? ⟨w.heap.size + 1, 4, none⟩ = some (.slice none 0 0) ∧ X'.cell? ⟨w.heap.size + 1, 5, none⟩ = some (.slice none 0 0) ∧ X'.cell? ⟨w.heap.size + 1, 6, none⟩ = some (.slice none 0 0) ∧ X'.cell? ⟨w.heap.size + 1, 7, none⟩ = some (.slice none 0 0)) := Lib.hid fun X' hx => by
      have hB := (HB9.out.on hx).cell
      have hE := (HE9.out.on hx).cell
      have hP : ∀ j v, (X9 xo xm xk xb xn xs xA xla xc' xB xlb xd xC xlc xe).toList[j]? = some v → X'.cell? ⟨bX, oX + j, none⟩ = some v := fun j v hj => hx.cell' (HK09.out.cell (HBN.out bX (by have := HSV.out; omega)) (HEX.out j v hj))
      exact ⟨hB 11, hP 0 _ rfl, hP 1 _ rfl, hP 2 _ rfl, hP 3 _ rfl, hP 4 _ rfl, hP 5 _ rfl, hP 6 _ rfl, hP 7 _ rfl, hP 8 _ rfl, hE 0, hE 1, hE 2, hE 3, hE 4, hE 5, hE 6, hE 7⟩
    have hcd := HS32.out w9.drew ((Ext.refl' w9).drewN' 1)
    go_region_held3 (fun X' => X'.cell? ⟨w.heap.size, 11, none⟩ = some (.slice (some ⟨bX, oX, none⟩) 1 xcap) ∧ X'.cell? ⟨bX, oX, none⟩ = some (.string xo) ∧ X'.cell? ⟨bX, oX + 1, none⟩ = some (.string xm) ∧ X'.cell? ⟨bX, oX + 2, none⟩ = some (.int .i64 xk) ∧ X'.cell? ⟨bX, oX + 3, none⟩ = some (.bool xb) ∧ X'.cell? ⟨bX, oX + 4, none⟩ = some (.int .i64 xn) ∧ X'.cell? ⟨bX, oX + 5, none⟩ = some (.string xs) ∧ X'.cell? ⟨bX, oX + 6, none⟩ = some (.slice xA xla xc') ∧ X'.cell? ⟨bX, oX + 7, none⟩ = some (.slice xB xlb xd) ∧ X'.cell? ⟨bX, oX + 8, none⟩ = some (.slice xC xlc xe) ∧ X'.cell? ⟨w.heap.size + 1, 0, none⟩ = some (.int .i64 2) ∧ X'.cell? ⟨w.heap.size + 1, 1, none⟩ = some (.bool false) ∧ X'.cell? ⟨w.heap.size + 1, 2, none⟩ = some (.int .i64 v) ∧ X'.cell? ⟨w.heap.size + 1, 3, none⟩ = some (.string ⟨#[]⟩) ∧ X'.cell? ⟨w.heap.size + 1, 4, none⟩ = some (.slice none 0 0) ∧ X'.cell? ⟨w.heap.size + 1, 5, none⟩ = some (.slice none 0 0) ∧ X'.cell? ⟨w.heap.size + 1, 6, none⟩ = some (.slice none 0 0) ∧ X'.cell? ⟨w.heap.size + 1, 7, none⟩ = some (.slice none 0 0)) (first | exact hcd | exact hce | go_keep) ((go_at_call 46; refine (HHD.out _ ((Ext.refl' w9).drewN' 1)).mono ?_; rintro e w10 ⟨rfl, hx⟩; have HX10 := Lib.hid (((Ext.refl' w9).drewN' 1).trans' hx); have hce := HS32.out w10 HX10.out; clear hx))
    all_goals
      have HM10 := Lib.hid (HM9.out.on HX10.out)
      have HV10 := Lib.hid (HV9.out.on HX10.out)
      have HR10 : Hid (Blk w10 (w.heap.size + 1 + 1) zero6a 32) := Lib.hid (by have h3 := HR9.out.on HX10.out; rw [HSV.out.1] at h3; exact h3)
      clear hcd hce HS32
      rcases tt with _ | _
      · go_wp2_with (first
          | (go_at_call 37; refine (HFL.out _ _ HM10.out).mono ?_; rintro e w11 ⟨rfl, hk, hmf⟩; have HK11 := Lib.hid hk; have HM11 := Lib.hid hmf; have HR11 := Lib.hid (HR10.out.keeps hk (by have := HSV.out; show ¬ w.heap.size + 1 + 1 = mk; omega)); clear hk hmf)
          | (refine wpList_store_blk rfl 32 _ _ rfl rfl (w.heap.size + 1 + 1) zero6a zero6a 32 HR11.out rfl rfl info6p rfl (by simp [Value.oneCell']) ?_; intro w12 HB12 HK12))
        refine bodyPost_ret (results_cell Tryz.results23 HB12.out rfl _ Tryz.underlying32 rfl info6p) rfl (hR.out _ _ ⟨?_, dv', ?_, ?_⟩)
        · exact ((((HK09.out.trans (Keeps.of_ext HX10.out)).trans (HK11.out.mono fun x _ e => .inl (.inr (.inl e)))).trans (HK12.out.mono fun x _ e => .inr (by have h3 : x = w.heap.size + 1 + 1 := e; have := HSV.out; omega)))).mono fun x hx e => e.elim id fun e => by omega
        · exact HG7.out.imp id fun ⟨q, e, hq⟩ => ⟨q, e, by have := HSV.out; omega⟩
        · exact ⟨fun e => (by cases e), fun _ => ⟨rfl, HM11.out.keeps HK12.out (fun x hx e => by have h3 : x = w.heap.size + 1 + 1 := e; have := HSV.out; omega)⟩⟩
      · go_wp2_with (first
          | (refine wpList_load_blk rfl 32 _ rfl _ _ _ HV10.out rfl _ Tryz.underlying32 rfl info6p ?_)
          | (refine wpList_store_blk rfl 32 _ _ rfl rfl (w.heap.size + 1 + 1) zero6a (cellsInt v).toArray 32 HR10.out rfl rfl info6p rfl (by simp [Value.oneCell']) ?_; intro w12 HB12 HK12))
        refine bodyPost_ret (results_cell Tryz.results23 HB12.out rfl _ Tryz.underlying32 rfl info6p) rfl (hR.out _ _ ⟨?_, dv', ?_, ?_⟩)
        · exact ((HK09.out.trans (Keeps.of_ext HX10.out)).trans (HK12.out.mono fun x _ e => .inr (by have h3 : x = w.heap.size + 1 + 1 := e; have := HSV.out; omega))).mono fun x hx e => e.elim id fun e => by omega
        · exact HG7.out.imp id fun ⟨q, e, hq⟩ => ⟨q, e, by have := HSV.out; omega⟩
        · exact ⟨fun _ => ⟨rfl, HM10.out.keeps HK12.out (fun x hx e => by have h3 : x = w.heap.size + 1 + 1 := e; have := HSV.out; omega) (fun x hx e => by
            have h3 : x = w.heap.size + 1 + 1 := e
            have := HSV.out
            rcases HG7.out with h4 | ⟨q, h4, hq⟩
            · have := (HOL.out x (h4.symm.trans hx)).1; omega
            · have h5 := h4.symm.trans hx; injection h5 with h5; omega)⟩, fun e => by cases e⟩
end Go.Proofs.YtnpaikdaogikcaaGreatDoor

/- The terms' parser: an expression that follows. -/
namespace Go.Proofs.YtnpaikdaogikcaaGreatDoor
set_option maxRecDepth 100000
open Go.RowKit
set_option linter.unusedVariables false
set_option linter.unusedSimpArgs false

theorem sto_hideX {x y : Value} : Instr.storeAt 118 x y = storeHid 118 x y := rfl
/-- An expression, read at a place of the terms' parser. -/
def GX (pb : Nat) (S : ByteArray) (j : Nat) (x : E) (w : World) (e : Ending) (w' : World) : Prop := GivesK (fun b => b = pb) (AE1 x) w e w' ∧ PA 66 w' pb S j 0 0
theorem MadeK.far {S : Nat → Prop} {w0 w w' : World} {z : Array Value} {t : TypeId} (h : MadeK S w0 w z t) (hk : Keeps (fun b => w0.heap.size < b) w w') : MadeK S w0 w' z t :=
  ⟨((h.keeps.mono (S' := fun b => S b ∨ w0.heap.size < b) fun k _ e => .inl e).trans (hk.mono fun k _ e => .inr e)).mono fun k hk e => e.elim id fun h => by omega, h.blk.keeps hk (by show ¬ w0.heap.size < w0.heap.size; omega), h.old⟩
attribute [local go_sem ↓ 2000] sto_hideX
set_option maxHeartbeats 4000000 in
theorem exprT (S : ByteArray) (i j pb : Nat) (x : E) (w : World) (hp : PA 66 w pb S i 0 0) (hi : i ≤ S.size) (hS : S.size ≤ 100000) (h : LX 182 S i x j) (hs : x.size ≤ 1000) (hd : E.depth x ≤ 32) :
    Calls Tryz.prog 99 #[.pointer (some ⟨pb, 0, none⟩)] w (GX pb S j x w) := by
  refine of_post fun R hR => ?_
  have hlt := hp.lt
  have HM := Lib.hid (madeK (S := fun b => b = pb) w zero9x 118 (by rintro b rfl; exact hlt))
  have HPA := Lib.hid (hp.on (ext_al w (.cells zero9x 118)))
  have HPX := fun W => Lib.hid (prefixX S i j x hi hS h hs hd W)
  have HSZ : Hid ((w.alloc (.cells zero9x 118)).heap.size = w.heap.size + 1) := Lib.hid (by rw [World.size_alloc])
  clear hp h hs hd
  go_enter Tryz.func99, Tryz.ntmps99
  have hpc := HPA.out.cell
  go_upto_region 3 with fail
  generalize w.alloc (.cells zero9x 118) = w0 at *
  have HS4 : Hid (∀ X, PA 66 X pb S i 0 0 → X.cell? ⟨pb, 0, none⟩ = some (.string S) ∧ X.cell? ⟨pb, 1, none⟩ = some (.int .i64 i)) := Lib.hid fun X h => ⟨h.cell 0, h.cell 1⟩
  have hcd := HS4.out w0.drew (HPA.out.on ((Ext.refl' w0).drewN' 1))
  have hca := HS4.out (w0.drew.alloc (.cells zero9x 118)) (HPA.out.on (((Ext.refl' w0).drewN' 1).alloc' _))
  clear hpc
  go_region_held3 (fun X => X.cell? ⟨pb, 0, none⟩ = some (.string S) ∧ X.cell? ⟨pb, 1, none⟩ = some (.int .i64 i)) (first | exact hcd | exact hca | exact hce | exact hcg | exact hcf | go_keep) ((first
    | (go_at_call 133; refine (HPX _).out.mono ?_; rintro r w5 ⟨⟨cs, rfl, ha⟩, hx⟩; obtain ⟨xo, xm, xk, xb, xn, xs, xA, xla, xc, xB, xlb, xd, xC, xlc, xe, rfl⟩ := AE1.nine ha; have HX5 : Hid (Ext w0 w5) := Lib.hid (by first | exact (((Ext.refl' w0).drewN' 1).alloc' _).trans' hx | exact ((Ext.refl' w0).drewN' 1).trans' hx); have hce := HS4.out w5 (HPA.out.on HX5.out); have hcg := HS4.out (w5.alloc (.cells zero9x 118)) ((HPA.out.on HX5.out).on (ext_al w5 _)); have HA5 := Lib.hid ha; (try have HBA := Lib.hid ((Blk.new w0.drew zero9x 118).on hx)); have HBB := Lib.hid (Blk.new w5 zero9x 118); clear ha hx)
    | (refine upon_storeG _ 0 zero9x (X9 xo xm xk xb xn xs xA xla xc xB xlb xd xC xlc xe) HBA rfl info9x (by simp) rfl (by simp [Value.oneCell']) ?_; intro w6 HB6 HK6; have HX6 : Hid (Keeps (fun b => w.heap.size < b) w0 w6) := Lib.hid ((Keeps.of_ext HX5.out).trans (HK6.out.mono fun k _ e => by have h1 : k = w0.heap.size := e; have := HSZ.out; omega)); have HA6 : Hid (AE1 x (fun b => w.heap.size < b) w6 (X9 xo xm xk xb xn xs xA xla xc xB xlb xd xC xlc xe)) := Lib.hid (RdE.mono (p := Fr (w0.drew.alloc (.cells zero9x 118)).heap.size) (fun b hb => by have h1 : (w0.drew.alloc (.cells zero9x 118)).heap.size ≤ b := hb; rw [World.size_alloc] at h1; have h2 : w0.drew.heap.size = w0.heap.size := rfl; have := HSZ.out; omega) _ _ (RdE.keeps HK6.out (fun b hb (e : b = w0.heap.size) => by have h1 : (w0.drew.alloc (.cells zero9x 118)).heap.size ≤ b := hb; rw [World.size_alloc] at h1; have h2 : w0.drew.heap.size = w0.heap.size := rfl; omega) _ _ HA5.out)); have HP6 : Hid (PA 66 w6 pb S i 0 0) := Lib.hid (Blk.keeps HPA.out HX6.out (by omega)); have hcf := HS4.out w6 HP6.out)
    | (refine upon_storeG _ 0 zero9x (X9 xo xm xk xb xn xs xA xla xc xB xlb xd xC xlc xe) HBB rfl info9x (by simp) rfl (by simp [Value.oneCell']) ?_; intro w6 HB6 HK6; have HX6 : Hid (Keeps (fun b => w.heap.size < b) w0 w6) := Lib.hid ((Keeps.of_ext (HX5.out.trans' (ext_al w5 _))).trans (HK6.out.mono fun k _ e => by have h1 : k = w5.heap.size := e; have := HSZ.out; have := HX5.out.size; omega)); have HA6 : Hid (AE1 x (fun b => w.heap.size < b) w6 (X9 xo xm xk xb xn xs xA xla xc xB xlb xd xC xlc xe)) := Lib.hid (RdE.mono (p := fun b => Fr w0.drew.heap.size b ∧ b < w5.heap.size) (fun b hb => by have h1 : w0.drew.heap.size ≤ b := hb.1; have h2 : w0.drew.heap.size = w0.heap.size := rfl; have := HSZ.out; omega) _ _ (RdE.keeps HK6.out (fun b hb (e : b = w5.heap.size) => by have := hb.2; omega) _ _ (RdE.on (ext_al w5 _) _ _ (RdE.lt _ _ HA5.out)))); have HP6 : Hid (PA 66 w6 pb S i 0 0) := Lib.hid (Blk.keeps HPA.out HX6.out (by omega)); have hcf := HS4.out w6 HP6.out)))
  all_goals
    have HBX : Hid (Blk w6 _ (X9 xo xm xk xb xn xs xA xla xc xB xlb xd xC xlc xe) 118) := Lib.hid HB6.out
    have hpc := HP6.out.cell
    have hfz := HP6.out.frozen 1
    have HM6 := Lib.hid ((HM.out.far HX6.out).keep (Keeps.set w6 ⟨pb, 1, none⟩ (.int .i64 j)))
    have HP7 := Lib.hid (HP6.out.set j)
    have HB7 := Lib.hid (Blk.keeps HBX.out (Keeps.set w6 ⟨pb, 1, none⟩ (.int .i64 j)) (by have := HSZ.out; have := HX5.out.size; show ¬ _ = pb; omega))
    have HA7 := Lib.hid (RdE.keeps (Keeps.set w6 ⟨pb, 1, none⟩ (.int .i64 j)) (fun b hb (e : b = pb) => by have h1 : w.heap.size < b := hb; omega) _ _ HA6.out)
    have HQ7 : Hid (∀ b, w.heap.size < b → w.heap.size < b) := Lib.hid fun b h => h
    have hcv := HB7.out
    go_wp2_with (first
      | (refine wpList_load_blk rfl 118 _ rfl _ _ _ hcv rfl _ Tryz.underlying118 rfl info9x ?_)
      | (refine wpList_answerK (kE x) rfl 118 _ _ rfl rfl HM6 rfl info9x HA7 HQ7 rfl rfl ?_; intro w9 HG HK))
    exact GivenK.fin HG Tryz.results99 rfl _ Tryz.underlying118 rfl info9x rfl fun h => hR.out _ _ ⟨h, Blk.keeps HP7.out HK.out (by omega)⟩
end Go.Proofs.YtnpaikdaogikcaaGreatDoor
