/- expr: two things with a sign between. -/
import Derived.Test.YtnpaikdaogikcaaGreatDoorG12
import Derived.Test.YtnpaikdaogikcaaGreatDoorG08

namespace Go.Proofs.YtnpaikdaogikcaaGreatDoor
set_option maxRecDepth 100000
open Go.RowKit
set_option linter.unusedVariables false
set_option linter.unusedSimpArgs false

abbrev X9 (xo xm : ByteArray) (xk : Int) (xb : Bool) (xn : Int) (xs : ByteArray) (xA : Option Addr) (xla xc : Nat) (xB : Option Addr) (xlb xd : Nat) (xC : Option Addr) (xlc xe : Nat) : Array Value := #[.string xo, .string xm, .int .i64 xk, .bool xb, .int .i64 xn, .string xs, .slice xA xla xc, .slice xB xlb xd, .slice xC xlc xe]
theorem set9 {w : World} {b : Nat} {t : TypeId} {z0 z1 z2 z3 z4 z5 z6 z7 z8 : Value} (h : Blk w b #[z0, z1, z2, z3, z4, z5, z6, z7, z8] t) (v0 v1 v2 v3 v4 v5 v6 v7 v8 : Value) : Blk (((((((((w.setCell ⟨b, 0, none⟩ v0).setCell ⟨b, 1, none⟩ v1).setCell ⟨b, 2, none⟩ v2).setCell ⟨b, 3, none⟩ v3).setCell ⟨b, 4, none⟩ v4).setCell ⟨b, 5, none⟩ v5).setCell ⟨b, 6, none⟩ v6).setCell ⟨b, 7, none⟩ v7).setCell ⟨b, 8, none⟩ v8) b #[v0, v1, v2, v3, v4, v5, v6, v7, v8] t ∧ Keeps (fun x => x = b) w (((((((((w.setCell ⟨b, 0, none⟩ v0).setCell ⟨b, 1, none⟩ v1).setCell ⟨b, 2, none⟩ v2).setCell ⟨b, 3, none⟩ v3).setCell ⟨b, 4, none⟩ v4).setCell ⟨b, 5, none⟩ v5).setCell ⟨b, 6, none⟩ v6).setCell ⟨b, 7, none⟩ v7).setCell ⟨b, 8, none⟩ v8) := by
  refine ⟨?_, ?_⟩
  · have := ((((((((h.set (i := 0) v0).set (i := 1) v1).set (i := 2) v2).set (i := 3) v3).set (i := 4) v4).set (i := 5) v5).set (i := 6) v6).set (i := 7) v7).set (i := 8) v8
    simpa using this
  · exact ((((((((Keeps.set w ⟨b, 0, none⟩ v0).setCell (p := ⟨b, 1, none⟩) rfl v1).setCell (p := ⟨b, 2, none⟩) rfl v2).setCell (p := ⟨b, 3, none⟩) rfl v3).setCell (p := ⟨b, 4, none⟩) rfl v4).setCell (p := ⟨b, 5, none⟩) rfl v5).setCell (p := ⟨b, 6, none⟩) rfl v6).setCell (p := ⟨b, 7, none⟩) rfl v7).setCell (p := ⟨b, 8, none⟩) rfl v8
theorem rdE_bin {p : Nat → Prop} {w : World} {t : TypeId} {op : ByteArray} {x y : E} {cx cy : Array Value} (hx : AE1 x p w cx) (hy : AE1 y p w cy) (nb : Nat) (hb : Blk w nb (cx ++ cy) t) (hp : p nb) : AE1 (bin (tl op) x y) p w #[.string op, .string ⟨#[]⟩, .int .i64 0, .bool false, .int .i64 0, .string ⟨#[]⟩, .slice none 0 0, .slice none 0 0, .slice (some ⟨nb, 0, none⟩) 2 2] := by
  show RdE p w (.mk (tl op) [] .none [x, y]) _
  simp only [RdE]
  refine ⟨[.int .i64 0, .bool false, .int .i64 0, .string ⟨#[]⟩, .slice none 0 0, .slice none 0 0], some ⟨nb, 0, none⟩, 2, [cx.toList, cy.toList], rfl, by simp only [V.none, RdV]; exact ⟨none, 0, none, 0, [], rfl, Nat.le_refl _, Nat.le_refl _, rfl, CellsFrom.nil _ _ _, CellsFrom.nil _ _ _⟩, Nat.le_refl _, ?_, fun hn => ⟨nb, 0, rfl, hp, fun k u hk => ?_⟩⟩
  · exact (RdEs_iff _ _ _ _).2 (.cons hx (.cons hy .nil))
  · rw [Nat.zero_add, hb.cell k, ← hk]
    simp [← Array.getElem?_toList]
set_option maxHeartbeats 4000000 in
/-- One sign follows, and no other. -/
theorem chainX1 (f : FuncId) (S : ByteArray) (i j j2 j3 : Nat) (x y : E) (l : List ByteArray) (k : Nat) (hk : k < l.length) (most : Nat) (hent : Enters Tryz.prog f) (hj : j ≤ S.size) (hj3 : j3 ≤ S.size) (hS : S.size ≤ 100000) (h1 : LX f S i x j) (h2 : LX f S j2 y j3) (hl : l.length ≤ 100)
    (hno : ∀ m, (hm : m < l.length) → m < k → mark (tl S) j (tl l[m]) = none) (hyes : 0 < l[k].size ∧ l[k].size ≤ 1000 ∧ mark (tl S) j (tl l[k]) = some j2 ∧ ∀ h0 : 0 < l[k].size, isLet l[k][0] = false)
    (hno2 : most = 1 ∨ ∀ m, (hm : m < l.length) → mark (tl S) j3 (tl l[m]) = none)
    (h0 : 1 ≤ most) (hm : most ≤ 1000000) (pb : Nat) (A : Option Addr) (c : Nat) (w : World) (hp : PA 207 w pb S i 0 0) (hA : Signs w A l) (hne : ∀ b o, A = some ⟨b, o, none⟩ → b < w.heap.size ∧ b ≠ pb) :
    Calls Tryz.prog 220 #[.pointer (some ⟨pb, 0, none⟩), .func (.func f) #[] #[], .int .i64 most, .slice A l.length c] w (GExpr pb S j3 (bin (tl l[k]) x y) w) := by
  refine of_post fun R hR => ?_
  have hlt := hp.lt
  have HM := Lib.hid (madeK (S := fun b => b = pb) w zero9x 118 (by rintro b rfl; exact hlt))
  have HPA := Lib.hid (hp.on (ext_al w (.cells zero9x 118)))
  have HON := Lib.hid (h1 pb _ HPA.out)
  have HTW := Lib.hid (fun W h => h2 pb W h)
  have HSG := Lib.hid (CellsAt.ext hA (ext_al w (.cells zero9x 118)))
  have HNE : Hid (∀ b o, A = some ⟨b, o, none⟩ → b ≠ pb) := Lib.hid fun b o e => (hne b o e).2
  have HNL : Hid (∀ b o, A = some ⟨b, o, none⟩ → b < w.heap.size) := Lib.hid fun b o e => (hne b o e).1
  have HIX := fun w h hA => Lib.hid (indexMark S j pb l A c w h hj hS hA hl k (Nat.le_of_lt hk) (fun m h hm => hno m hm h) j2 (fun _ => hyes))
  have HIY := fun w (h : PA 207 w pb S j3 0 0) hA (hno : ∀ m, (hm : m < l.length) → mark (tl S) j3 (tl l[m]) = none) => Lib.hid (indexMark S j3 pb l A c w h hj3 hS hA hl l.length (Nat.le_refl _) (fun m _ hm => hno m hm) 0 (fun h => absurd h (Nat.lt_irrefl _)))
  have HN2 := Lib.hid hno2
  have HKL := Lib.hid hk
  unfold Enters at hent
  have g1 : (0 : Int) < most := by omega
  have g2 : (k : Int) < l.length := by omega
  clear hp h1 h2 hA hne hno hyes hno2
  go_enter Tryz.func220, Tryz.ntmps220
  go_upto_region 2 with (refine HON.out.mono ?_; rintro r w1 ⟨⟨⟨cs, rfl, ha⟩, hk⟩, hpa⟩; obtain ⟨xo, xm, xk, xb, xn, xs, xA, xla, xc, xB, xlb, xd, xC, xlc, xe, rfl⟩ := AE1.nine ha; have HXL := Lib.hid (ext_al w1 (.cells (X9 xo xm xk xb xn xs xA xla xc xB xlb xd xC xlc xe) 118)); have HA : Hid (AE1 x (fun b => w.heap.size < b ∧ b < w1.heap.size) _ _) := Lib.hid (RdE.on HXL.out _ _ (RdE.mono (fun b hb => ⟨Nat.lt_of_lt_of_le HM.out.lt hb.1, hb.2⟩) _ _ (RdE.lt _ _ ha))); have HPB := Lib.hid (hpa.on HXL.out); have HM2 := Lib.hid ((HM.out.keep hk).on HXL.out); have HSG2 : Hid (Signs (w1.alloc (.cells (X9 xo xm xk xb xn xs xA xla xc xB xlb xd xC xlc xe) 118)) A l) := Lib.hid (signs_keep HSG.out HNE.out (hk.trans (Keeps.of_ext HXL.out))); have HBV := Lib.hid (Blk.new w1 (X9 xo xm xk xb xn xs xA xla xc xB xlb xd xC xlc xe) 118); have HV1 : Hid (w.heap.size < w1.heap.size) := Lib.hid (Nat.lt_of_lt_of_le HM.out.lt hk.size); clear ha hk hpa)
  generalize hw2 : w1.alloc (.cells (X9 xo xm xk xb xn xs xA xla xc xB xlb xd xC xlc xe) 118) = w2 at *
  clear hw2 HXL
  generalize w1.heap.size = vb at *
  go_wp2_with fail
  go_loopw [16] (fun iv wr => (iv = .int .i64 0 ∧ wr = w2) ∨ (iv = .int .i64 1 ∧ ∃ C9 : Array Value, Hid (Blk wr vb C9 118) ∧ Hid (AE1 (bin (tl l[k]) x y) (fun b => w.heap.size < b) wr C9) ∧ Hid (PA 207 wr pb S j3 0 0) ∧ Hid (MadeK (fun b => b = pb) w wr zero9x 118) ∧ Hid (Signs wr A l))) (fun iv _ => 1 - (intOf iv).toNat)
  case atStart => exact .inl ⟨rfl, rfl⟩
  case round =>
    rcases hrel with ⟨rfl, hww⟩ | ⟨rfl, C9, HB9, HA9, HP9, HM9, HS9⟩
    · subst hww
      obtain ⟨sb, so, rfl, hcell⟩ := HSG2.out (by intro e; rw [List.map_eq_nil_iff] at e; have := HKL.out; rw [e] at this; simp at this)
      have hsk := hcell k (.string l[k]) (by rw [List.getElem?_map, List.getElem?_eq_getElem HKL.out]; rfl)
      have hsn := HNE.out sb so rfl
      have hsl := HNL.out sb so rfl
      have HSK := Lib.hid hsk
      have HSN := Lib.hid hsn
      have HSL := Lib.hid hsl
      generalize hop : l[k] = op at *
      clear hcell hsk hsn hsl
      go_upto_region 7 with (first
        | (go_at_call 111; refine (HIX _ HPB.out HSG2.out).out.mono ?_; rintro r w3 ⟨hz, _⟩; obtain ⟨rfl, hpm⟩ := hz HKL.out; have HPM := Lib.hid hpm; clear hz hpm)
        | (refine (HTW.out _ HPM.out.at_).mono ?_; rintro r w5 ⟨⟨⟨cs, rfl, ha⟩, hk⟩, hpa⟩; obtain ⟨yo, ym, yk, yb, yn, ys, yA, yla, yc, yB, ylb, yd, yC, ylc, ye, rfl⟩ := AE1.nine ha; have HYL := Lib.hid (ext_al w5 (.cells (X9 yo ym yk yb yn ys yA yla yc yB ylb yd yC ylc ye) 118)); have HKY := Lib.hid ((HPM.out.keeps.trans hk).trans (Keeps.of_ext HYL.out)); have HYA : Hid (AE1 y (fun b => vb < b) _ _) := Lib.hid (RdE.on HYL.out _ _ (RdE.mono (fun b hb => Nat.lt_of_lt_of_le (Nat.lt_of_lt_of_le HBV.out.lt HPM.out.keeps.size) hb) _ _ ha)); have HPC := Lib.hid (hpa.on HYL.out); have HBY := Lib.hid (Blk.new w5 (X9 yo ym yk yb yn ys yA yla yc yB ylb yd yC ylc ye) 118); have HVY := Lib.hid (Nat.le_trans HPM.out.keeps.size hk.size); clear ha hk hpa))
      generalize hw6 : w5.alloc (.cells (X9 yo ym yk yb yn ys yA yla yc yB ylb yd yC ylc ye) 118) = w6 at *
      clear hw6 HYL
      have hvy : vb < w5.heap.size := Nat.lt_of_lt_of_le HBV.out.lt HVY.out
      generalize w5.heap.size = vy at *
      have HBX : Hid (Blk w6 vb (X9 xo xm xk xb xn xs xA xla xc xB xlb xd xC xlc xe) 118) := Lib.hid (HBV.out.keeps HKY.out (by have := HV1.out; show ¬ vb = pb; omega))
      have hsk : w6.cell? ⟨sb, so + k, none⟩ = some (.string op) := HKY.out.cell (by exact HSN.out) HSK.out
      have hx : ∀ m, w6.cell? ⟨vb, m, none⟩ = (X9 xo xm xk xb xn xs xA xla xc xB xlb xd xC xlc xe)[m]? := HBX.out.cell
      have hy : ∀ m, w6.cell? ⟨vy, m, none⟩ = (X9 yo ym yk yb yn ys yA yla yc yB ylb yd yC ylc ye)[m]? := HBY.out.cell
      have hfx : ∀ m, w6.frozen? ⟨vb, m, none⟩ = false := HBX.out.frozen
      have hsk2 : ∀ o, (w6.alloc o).cell? ⟨sb, so + k, none⟩ = some (.string op) := fun o => (ext_al w6 o).cell' hsk
      have hx2 : ∀ o m, (w6.alloc o).cell? ⟨vb, m, none⟩ = (X9 xo xm xk xb xn xs xA xla xc xB xlb xd xC xlc xe)[m]? := fun o => (HBX.out.on (ext_al w6 o)).cell
      have hy2 : ∀ o m, (w6.alloc o).cell? ⟨vy, m, none⟩ = (X9 yo ym yk yb yn ys yA yla yc yB ylb yd yC ylc ye)[m]? := fun o => (HBY.out.on (ext_al w6 o)).cell
      have hfx2 : ∀ o m, (w6.alloc o).frozen? ⟨vb, m, none⟩ = false := fun o => (HBX.out.on (ext_al w6 o)).frozen
      have HXN := Lib.hid (ext_al w6 (.cells #[.string xo, .string xm, .int .i64 xk, .bool xb, .int .i64 xn, .string xs, .slice xA xla xc, .slice xB xlb xd, .slice xC xlc xe, .string yo, .string ym, .int .i64 yk, .bool yb, .int .i64 yn, .string ys, .slice yA yla yc, .slice yB ylb yd, .slice yC ylc ye] 118))
      have HNB := Lib.hid (Blk.new w6 #[.string xo, .string xm, .int .i64 xk, .bool xb, .int .i64 xn, .string xs, .slice xA xla xc, .slice xB xlb xd, .slice xC xlc xe, .string yo, .string ym, .int .i64 yk, .bool yb, .int .i64 yn, .string ys, .slice yA yla yc, .slice yB ylb yd, .slice yC ylc ye] 118)
      have HST := Lib.hid (set9 (HBX.out.on HXN.out) (.string op) (.string ⟨#[]⟩) (.int .i64 0) (.bool false) (.int .i64 0) (.string ⟨#[]⟩) (.slice none 0 0) (.slice none 0 0) (.slice (some ⟨w6.heap.size, 0, none⟩) 2 2))
      have HNV : Hid (vb < w6.heap.size) := Lib.hid HBX.out.lt
      go_region
      go_wp2_with fail
      go_roundw
      case rel =>
        have HKN := Lib.hid (((Keeps.of_ext (S := fun b => b = vb) HXN.out).trans HST.out.2).drewN 1)
        have hvp : w.heap.size < vb := HV1.out
        have hold := HM2.out.old pb rfl
        refine .inr ⟨by go_num, _, Lib.hid (HST.out.1.on ((Ext.refl' _).drewN' 1)), Lib.hid ?_, Lib.hid ?_, Lib.hid ?_, Lib.hid ?_⟩
        · refine rdE_bin (t := 118) (RdE.mono (fun b hb => hb.1) _ _ (RdE.keeps HKN.out (fun b hb (e : b = vb) => by have := hb.2; omega) _ _ (RdE.keeps HKY.out (fun b hb (e : b = pb) => by have := hb.1; omega) _ _ HA.out))) (RdE.mono (fun b hb => Nat.lt_trans hvp hb) _ _ (RdE.keeps HKN.out (fun b hb (e : b = vb) => by have h1 : vb < b := hb; omega) _ _ HYA.out)) w6.heap.size ?_ (Nat.lt_trans hvp HNV.out)
          exact (HNB.out.keeps HST.out.2 (by have := HNV.out; show ¬ w6.heap.size = vb; omega)).on ((Ext.refl' _).drewN' 1)
        · exact Blk.keeps HPC.out HKN.out (by show ¬ pb = vb; omega)
        · refine ⟨(((HM2.out.keeps.trans HKY.out).mono (S' := fun b => b = pb ∨ w.heap.size < b) (fun k _ e => .inl e)).trans (HKN.out.mono fun k _ (e : k = vb) => .inr (by omega))).mono fun k hk e => e.elim id fun h => by omega, (HM2.out.keep HKY.out).blk.keeps HKN.out (by show ¬ w.heap.size = vb; omega), HM2.out.old⟩
        · exact signs_keep (signs_keep HSG2.out HNE.out HKY.out) (fun b o e => by cases e; have := HSL.out; omega) HKN.out
      case measure => simp [intOf]
    · obtain ⟨zo, zm, zk, zb, zn, zs, zA, zla, zc, zB, zlb, zd, zC, zlc, ze, rfl⟩ := AE1.nine HA9.out
      have hcv := HB9.out
      have HQ9 : Hid (∀ b, w.heap.size < b → w.heap.size < b) := Lib.hid fun b h => h
      have hpl := HM9.out.old pb rfl
      rcases HN2.out with hm1 | hno2
      · subst hm1
        go_wp2_with (first
          | (refine wpList_load_blk rfl 118 _ rfl vb _ _ hcv rfl _ Tryz.underlying118 rfl info9x ?_)
          | (refine wpList_answerK (kE (bin (tl l[k]) x y)) rfl 118 _ _ rfl rfl HM9 rfl info9x HA9 HQ9 rfl rfl ?_; intro w9 HG HK))
        exact GivenK.fin HG Tryz.results220 rfl _ Tryz.underlying118 rfl info9x rfl fun h => hR.out _ _ ⟨h, Blk.keeps HP9.out HK.out (by omega)⟩
      · have HIZ := fun w h hA => HIY w h hA hno2
        clear hno2
        by_cases hm1 : (1 : Int) < most
        · go_wp2_with (first
            | (go_at_call 111; refine (HIZ _ HP9.out HS9.out).out.mono ?_; rintro r w3 ⟨_, hz⟩; obtain ⟨rfl, hw⟩ := hz trivial; obtain rfl := hw; clear hz)
            | (refine wpList_load_blk rfl 118 _ rfl vb _ _ hcv rfl _ Tryz.underlying118 rfl info9x ?_)
            | (refine wpList_answerK (kE (bin (tl l[k]) x y)) rfl 118 _ _ rfl rfl HM9 rfl info9x HA9 HQ9 rfl rfl ?_; intro w9 HG HK))
          exact GivenK.fin HG Tryz.results220 rfl _ Tryz.underlying118 rfl info9x rfl fun h => hR.out _ _ ⟨h, Blk.keeps HP9.out HK.out (by omega)⟩
        · go_wp2_with (first
            | (refine wpList_load_blk rfl 118 _ rfl vb _ _ hcv rfl _ Tryz.underlying118 rfl info9x ?_)
            | (refine wpList_answerK (kE (bin (tl l[k]) x y)) rfl 118 _ _ rfl rfl HM9 rfl info9x HA9 HQ9 rfl rfl ?_; intro w9 HG HK))
          exact GivenK.fin HG Tryz.results220 rfl _ Tryz.underlying118 rfl info9x rfl fun h => hR.out _ _ ⟨h, Blk.keeps HP9.out HK.out (by omega)⟩
end Go.Proofs.YtnpaikdaogikcaaGreatDoor

/- expr: the levels. -/
namespace Go.Proofs.YtnpaikdaogikcaaGreatDoor
set_option maxRecDepth 100000
open Go.RowKit
set_option linter.unusedVariables false
set_option linter.unusedSimpArgs false

set_option maxHeartbeats 2000000 in
theorem orX0 (S : ByteArray) (i j : Nat) (x : E) (hj : j ≤ S.size) (hS : S.size ≤ 100000) (h : LX 221 S i x j) (hno : ∀ t ∈ ([[111, 114]] : List Bs), mark (tl S) j t = none) : LX 182 S i x j := by
  intro pb w hp
  refine of_post fun R hR => ?_
  have hlt := hp.lt
  have hx1 := ext_al w (.cells zero9x 118)
  have hx2 := ext_al (w.alloc (.cells zero9x 118)) (.cells #[.string ⟨#[111, 114]⟩] 9)
  have HM := Lib.hid ((madeK (S := fun b => b = pb) w zero9x 118 (by rintro b rfl; exact hlt)).on hx2)
  have hsz : ((w.alloc (.cells zero9x 118)).alloc (.cells #[.string ⟨#[111, 114]⟩] 9)).heap.size = w.heap.size + 2 := by rw [World.size_alloc, World.size_alloc]
  have HC := Lib.hid (chainX0 221 S i j x [⟨#[111, 114]⟩] 2048 (enters_of Tryz.func221 (by kernel_rfl) rfl) hj hS h (by decide) (fun m hm => hno _ (List.mem_map_of_mem (f := tl) (List.getElem_mem hm))) (by decide) (by decide) pb (some ⟨w.heap.size + 1, 0, none⟩) 1 ((w.alloc (.cells zero9x 118)).alloc (.cells #[.string ⟨#[111, 114]⟩] 9)) (hp.on (hx1.trans' hx2)) (cellsAt_new2 w (.cells zero9x 118) [.string ⟨#[111, 114]⟩] 9) (fun b o e => by cases e; omega))
  clear hp h hno hx1 hx2
  go_enter Tryz.func182, Tryz.ntmps182
  go_wp2_with (first
    | (go_at_call 220; refine HC.out.mono ?_; rintro r w1 ⟨⟨⟨cs, rfl, ha⟩, hk⟩, hpa⟩; have HA := Lib.hid ha; have HQ : Hid (∀ b, Fr _ b → w.heap.size < b) := Lib.hid (fun b hb => Nat.lt_of_lt_of_le HM.out.lt hb); have HPA := Lib.hid hpa; replace HM := Lib.hid (HM.out.keep hk); clear ha hk hpa)
    | (refine wpList_answerK (kE x) rfl 118 _ _ rfl rfl HM rfl info9x HA HQ rfl rfl ?_; intro w9 HG HK))
  exact GivenK.fin HG Tryz.results182 rfl _ Tryz.underlying118 rfl info9x rfl fun h => hR.out _ _ ⟨h, Blk.keeps HPA.out HK.out (by omega)⟩

set_option maxHeartbeats 2000000 in
theorem andX0 (S : ByteArray) (i j : Nat) (x : E) (hj : j ≤ S.size) (hS : S.size ≤ 100000) (h : LX 253 S i x j) (hno : ∀ t ∈ ([[97, 110, 100]] : List Bs), mark (tl S) j t = none) : LX 221 S i x j := by
  intro pb w hp
  refine of_post fun R hR => ?_
  have hlt := hp.lt
  have hx1 := ext_al w (.cells zero9x 118)
  have hx2 := ext_al (w.alloc (.cells zero9x 118)) (.cells #[.string ⟨#[97, 110, 100]⟩] 9)
  have HM := Lib.hid ((madeK (S := fun b => b = pb) w zero9x 118 (by rintro b rfl; exact hlt)).on hx2)
  have hsz : ((w.alloc (.cells zero9x 118)).alloc (.cells #[.string ⟨#[97, 110, 100]⟩] 9)).heap.size = w.heap.size + 2 := by rw [World.size_alloc, World.size_alloc]
  have HC := Lib.hid (chainX0 253 S i j x [⟨#[97, 110, 100]⟩] 2048 (enters_of Tryz.func253 (by kernel_rfl) rfl) hj hS h (by decide) (fun m hm => hno _ (List.mem_map_of_mem (f := tl) (List.getElem_mem hm))) (by decide) (by decide) pb (some ⟨w.heap.size + 1, 0, none⟩) 1 ((w.alloc (.cells zero9x 118)).alloc (.cells #[.string ⟨#[97, 110, 100]⟩] 9)) (hp.on (hx1.trans' hx2)) (cellsAt_new2 w (.cells zero9x 118) [.string ⟨#[97, 110, 100]⟩] 9) (fun b o e => by cases e; omega))
  clear hp h hno hx1 hx2
  go_enter Tryz.func221, Tryz.ntmps221
  go_wp2_with (first
    | (go_at_call 220; refine HC.out.mono ?_; rintro r w1 ⟨⟨⟨cs, rfl, ha⟩, hk⟩, hpa⟩; have HA := Lib.hid ha; have HQ : Hid (∀ b, Fr _ b → w.heap.size < b) := Lib.hid (fun b hb => Nat.lt_of_lt_of_le HM.out.lt hb); have HPA := Lib.hid hpa; replace HM := Lib.hid (HM.out.keep hk); clear ha hk hpa)
    | (refine wpList_answerK (kE x) rfl 118 _ _ rfl rfl HM rfl info9x HA HQ rfl rfl ?_; intro w9 HG HK))
  exact GivenK.fin HG Tryz.results221 rfl _ Tryz.underlying118 rfl info9x rfl fun h => hR.out _ _ ⟨h, Blk.keeps HPA.out HK.out (by omega)⟩

set_option maxHeartbeats 2000000 in
theorem relX0 (S : ByteArray) (i j : Nat) (x : E) (hj : j ≤ S.size) (hS : S.size ≤ 100000) (h : LX 279 S i x j) (hno : ∀ t ∈ ([[61, 61], [33, 61], [60, 61], [62, 61], [60], [62]] : List Bs), mark (tl S) j t = none) : LX 270 S i x j := by
  intro pb w hp
  refine of_post fun R hR => ?_
  have hlt := hp.lt
  have hx1 := ext_al w (.cells zero9x 118)
  have hx2 := ext_al (w.alloc (.cells zero9x 118)) (.cells #[.string ⟨#[61, 61]⟩, .string ⟨#[33, 61]⟩, .string ⟨#[60, 61]⟩, .string ⟨#[62, 61]⟩, .string ⟨#[60]⟩, .string ⟨#[62]⟩] 9)
  have HM := Lib.hid ((madeK (S := fun b => b = pb) w zero9x 118 (by rintro b rfl; exact hlt)).on hx2)
  have hsz : ((w.alloc (.cells zero9x 118)).alloc (.cells #[.string ⟨#[61, 61]⟩, .string ⟨#[33, 61]⟩, .string ⟨#[60, 61]⟩, .string ⟨#[62, 61]⟩, .string ⟨#[60]⟩, .string ⟨#[62]⟩] 9)).heap.size = w.heap.size + 2 := by rw [World.size_alloc, World.size_alloc]
  have HC := Lib.hid (chainX0 279 S i j x [⟨#[61, 61]⟩, ⟨#[33, 61]⟩, ⟨#[60, 61]⟩, ⟨#[62, 61]⟩, ⟨#[60]⟩, ⟨#[62]⟩] 1 (enters_of Tryz.func279 (by kernel_rfl) rfl) hj hS h (by decide) (fun m hm => hno _ (List.mem_map_of_mem (f := tl) (List.getElem_mem hm))) (by decide) (by decide) pb (some ⟨w.heap.size + 1, 0, none⟩) 6 ((w.alloc (.cells zero9x 118)).alloc (.cells #[.string ⟨#[61, 61]⟩, .string ⟨#[33, 61]⟩, .string ⟨#[60, 61]⟩, .string ⟨#[62, 61]⟩, .string ⟨#[60]⟩, .string ⟨#[62]⟩] 9)) (hp.on (hx1.trans' hx2)) (cellsAt_new2 w (.cells zero9x 118) [.string ⟨#[61, 61]⟩, .string ⟨#[33, 61]⟩, .string ⟨#[60, 61]⟩, .string ⟨#[62, 61]⟩, .string ⟨#[60]⟩, .string ⟨#[62]⟩] 9) (fun b o e => by cases e; omega))
  clear hp h hno hx1 hx2
  go_enter Tryz.func270, Tryz.ntmps270
  go_wp2_with (first
    | (go_at_call 220; refine HC.out.mono ?_; rintro r w1 ⟨⟨⟨cs, rfl, ha⟩, hk⟩, hpa⟩; have HA := Lib.hid ha; have HQ : Hid (∀ b, Fr _ b → w.heap.size < b) := Lib.hid (fun b hb => Nat.lt_of_lt_of_le HM.out.lt hb); have HPA := Lib.hid hpa; replace HM := Lib.hid (HM.out.keep hk); clear ha hk hpa)
    | (refine wpList_answerK (kE x) rfl 118 _ _ rfl rfl HM rfl info9x HA HQ rfl rfl ?_; intro w9 HG HK))
  exact GivenK.fin HG Tryz.results270 rfl _ Tryz.underlying118 rfl info9x rfl fun h => hR.out _ _ ⟨h, Blk.keeps HPA.out HK.out (by omega)⟩

set_option maxHeartbeats 2000000 in
theorem relX1_0 (S : ByteArray) (i j j2 j3 : Nat) (x y : E) (hj : j ≤ S.size) (hj3 : j3 ≤ S.size) (hS : S.size ≤ 100000) (h1 : LX 279 S i x j) (h2 : LX 279 S j2 y j3)
    (hno : ∀ t ∈ ([] : List Bs), mark (tl S) j t = none) (hyes : mark (tl S) j [61, 61] = some j2) : LX 270 S i (bin [61, 61] x y) j3 := by
  intro pb w hp
  refine of_post fun R hR => ?_
  have hlt := hp.lt
  have hx1 := ext_al w (.cells zero9x 118)
  have hx2 := ext_al (w.alloc (.cells zero9x 118)) (.cells #[.string ⟨#[61, 61]⟩, .string ⟨#[33, 61]⟩, .string ⟨#[60, 61]⟩, .string ⟨#[62, 61]⟩, .string ⟨#[60]⟩, .string ⟨#[62]⟩] 9)
  have HM := Lib.hid ((madeK (S := fun b => b = pb) w zero9x 118 (by rintro b rfl; exact hlt)).on hx2)
  have hsz : ((w.alloc (.cells zero9x 118)).alloc (.cells #[.string ⟨#[61, 61]⟩, .string ⟨#[33, 61]⟩, .string ⟨#[60, 61]⟩, .string ⟨#[62, 61]⟩, .string ⟨#[60]⟩, .string ⟨#[62]⟩] 9)).heap.size = w.heap.size + 2 := by rw [World.size_alloc, World.size_alloc]
  have HC := Lib.hid (chainX1 279 S i j j2 j3 x y [⟨#[61, 61]⟩, ⟨#[33, 61]⟩, ⟨#[60, 61]⟩, ⟨#[62, 61]⟩, ⟨#[60]⟩, ⟨#[62]⟩] 0 (by decide) 1 (enters_of Tryz.func279 (by kernel_rfl) rfl) hj hj3 hS h1 h2 (by decide) (fun m hm hmk => by
    have e : ([] : List Bs) = (([⟨#[61, 61]⟩, ⟨#[33, 61]⟩, ⟨#[60, 61]⟩, ⟨#[62, 61]⟩, ⟨#[60]⟩, ⟨#[62]⟩] : List ByteArray).take 0).map tl := rfl
    rw [e] at hno
    refine hno _ (List.mem_map_of_mem (f := tl) ?_)
    exact List.mem_take_iff_getElem.2 ⟨m, by omega, rfl⟩) ⟨by decide, by decide, hyes, by decide⟩ (.inl rfl) (by decide) (by decide) pb (some ⟨w.heap.size + 1, 0, none⟩) 6 ((w.alloc (.cells zero9x 118)).alloc (.cells #[.string ⟨#[61, 61]⟩, .string ⟨#[33, 61]⟩, .string ⟨#[60, 61]⟩, .string ⟨#[62, 61]⟩, .string ⟨#[60]⟩, .string ⟨#[62]⟩] 9)) (hp.on (hx1.trans' hx2)) (cellsAt_new2 w (.cells zero9x 118) [.string ⟨#[61, 61]⟩, .string ⟨#[33, 61]⟩, .string ⟨#[60, 61]⟩, .string ⟨#[62, 61]⟩, .string ⟨#[60]⟩, .string ⟨#[62]⟩] 9) (fun b o e => by cases e; omega))
  clear hp h1 h2 hno hyes hx1 hx2
  go_enter Tryz.func270, Tryz.ntmps270
  go_wp2_with (first
    | (go_at_call 220; refine HC.out.mono ?_; rintro r w1 ⟨⟨⟨cs, rfl, ha⟩, hk⟩, hpa⟩; have HA := Lib.hid ha; have HQ : Hid (∀ b, Fr _ b → w.heap.size < b) := Lib.hid (fun b hb => Nat.lt_of_lt_of_le HM.out.lt hb); have HPA := Lib.hid hpa; replace HM := Lib.hid (HM.out.keep hk); clear ha hk hpa)
    | (refine wpList_answerK (kE (bin [61, 61] x y)) rfl 118 _ _ rfl rfl HM rfl info9x HA HQ rfl rfl ?_; intro w9 HG HK))
  exact GivenK.fin HG Tryz.results270 rfl _ Tryz.underlying118 rfl info9x rfl fun h => hR.out _ _ ⟨h, Blk.keeps HPA.out HK.out (by omega)⟩

set_option maxHeartbeats 2000000 in
theorem relX1_4 (S : ByteArray) (i j j2 j3 : Nat) (x y : E) (hj : j ≤ S.size) (hj3 : j3 ≤ S.size) (hS : S.size ≤ 100000) (h1 : LX 279 S i x j) (h2 : LX 279 S j2 y j3)
    (hno : ∀ t ∈ ([[61, 61], [33, 61], [60, 61], [62, 61]] : List Bs), mark (tl S) j t = none) (hyes : mark (tl S) j [60] = some j2) : LX 270 S i (bin [60] x y) j3 := by
  intro pb w hp
  refine of_post fun R hR => ?_
  have hlt := hp.lt
  have hx1 := ext_al w (.cells zero9x 118)
  have hx2 := ext_al (w.alloc (.cells zero9x 118)) (.cells #[.string ⟨#[61, 61]⟩, .string ⟨#[33, 61]⟩, .string ⟨#[60, 61]⟩, .string ⟨#[62, 61]⟩, .string ⟨#[60]⟩, .string ⟨#[62]⟩] 9)
  have HM := Lib.hid ((madeK (S := fun b => b = pb) w zero9x 118 (by rintro b rfl; exact hlt)).on hx2)
  have hsz : ((w.alloc (.cells zero9x 118)).alloc (.cells #[.string ⟨#[61, 61]⟩, .string ⟨#[33, 61]⟩, .string ⟨#[60, 61]⟩, .string ⟨#[62, 61]⟩, .string ⟨#[60]⟩, .string ⟨#[62]⟩] 9)).heap.size = w.heap.size + 2 := by rw [World.size_alloc, World.size_alloc]
  have HC := Lib.hid (chainX1 279 S i j j2 j3 x y [⟨#[61, 61]⟩, ⟨#[33, 61]⟩, ⟨#[60, 61]⟩, ⟨#[62, 61]⟩, ⟨#[60]⟩, ⟨#[62]⟩] 4 (by decide) 1 (enters_of Tryz.func279 (by kernel_rfl) rfl) hj hj3 hS h1 h2 (by decide) (fun m hm hmk => by
    have e : ([[61, 61], [33, 61], [60, 61], [62, 61]] : List Bs) = (([⟨#[61, 61]⟩, ⟨#[33, 61]⟩, ⟨#[60, 61]⟩, ⟨#[62, 61]⟩, ⟨#[60]⟩, ⟨#[62]⟩] : List ByteArray).take 4).map tl := rfl
    rw [e] at hno
    refine hno _ (List.mem_map_of_mem (f := tl) ?_)
    exact List.mem_take_iff_getElem.2 ⟨m, by omega, rfl⟩) ⟨by decide, by decide, hyes, by decide⟩ (.inl rfl) (by decide) (by decide) pb (some ⟨w.heap.size + 1, 0, none⟩) 6 ((w.alloc (.cells zero9x 118)).alloc (.cells #[.string ⟨#[61, 61]⟩, .string ⟨#[33, 61]⟩, .string ⟨#[60, 61]⟩, .string ⟨#[62, 61]⟩, .string ⟨#[60]⟩, .string ⟨#[62]⟩] 9)) (hp.on (hx1.trans' hx2)) (cellsAt_new2 w (.cells zero9x 118) [.string ⟨#[61, 61]⟩, .string ⟨#[33, 61]⟩, .string ⟨#[60, 61]⟩, .string ⟨#[62, 61]⟩, .string ⟨#[60]⟩, .string ⟨#[62]⟩] 9) (fun b o e => by cases e; omega))
  clear hp h1 h2 hno hyes hx1 hx2
  go_enter Tryz.func270, Tryz.ntmps270
  go_wp2_with (first
    | (go_at_call 220; refine HC.out.mono ?_; rintro r w1 ⟨⟨⟨cs, rfl, ha⟩, hk⟩, hpa⟩; have HA := Lib.hid ha; have HQ : Hid (∀ b, Fr _ b → w.heap.size < b) := Lib.hid (fun b hb => Nat.lt_of_lt_of_le HM.out.lt hb); have HPA := Lib.hid hpa; replace HM := Lib.hid (HM.out.keep hk); clear ha hk hpa)
    | (refine wpList_answerK (kE (bin [60] x y)) rfl 118 _ _ rfl rfl HM rfl info9x HA HQ rfl rfl ?_; intro w9 HG HK))
  exact GivenK.fin HG Tryz.results270 rfl _ Tryz.underlying118 rfl info9x rfl fun h => hR.out _ _ ⟨h, Blk.keeps HPA.out HK.out (by omega)⟩

set_option maxHeartbeats 2000000 in
theorem sumX0 (S : ByteArray) (i j : Nat) (x : E) (hj : j ≤ S.size) (hS : S.size ≤ 100000) (h : LX 286 S i x j) (hno : ∀ t ∈ ([[43], [45]] : List Bs), mark (tl S) j t = none) : LX 279 S i x j := by
  intro pb w hp
  refine of_post fun R hR => ?_
  have hlt := hp.lt
  have hx1 := ext_al w (.cells zero9x 118)
  have hx2 := ext_al (w.alloc (.cells zero9x 118)) (.cells #[.string ⟨#[43]⟩, .string ⟨#[45]⟩] 9)
  have HM := Lib.hid ((madeK (S := fun b => b = pb) w zero9x 118 (by rintro b rfl; exact hlt)).on hx2)
  have hsz : ((w.alloc (.cells zero9x 118)).alloc (.cells #[.string ⟨#[43]⟩, .string ⟨#[45]⟩] 9)).heap.size = w.heap.size + 2 := by rw [World.size_alloc, World.size_alloc]
  have HC := Lib.hid (chainX0 286 S i j x [⟨#[43]⟩, ⟨#[45]⟩] 16384 (enters_of Tryz.func286 (by kernel_rfl) rfl) hj hS h (by decide) (fun m hm => hno _ (List.mem_map_of_mem (f := tl) (List.getElem_mem hm))) (by decide) (by decide) pb (some ⟨w.heap.size + 1, 0, none⟩) 2 ((w.alloc (.cells zero9x 118)).alloc (.cells #[.string ⟨#[43]⟩, .string ⟨#[45]⟩] 9)) (hp.on (hx1.trans' hx2)) (cellsAt_new2 w (.cells zero9x 118) [.string ⟨#[43]⟩, .string ⟨#[45]⟩] 9) (fun b o e => by cases e; omega))
  clear hp h hno hx1 hx2
  go_enter Tryz.func279, Tryz.ntmps279
  go_wp2_with (first
    | (go_at_call 220; refine HC.out.mono ?_; rintro r w1 ⟨⟨⟨cs, rfl, ha⟩, hk⟩, hpa⟩; have HA := Lib.hid ha; have HQ : Hid (∀ b, Fr _ b → w.heap.size < b) := Lib.hid (fun b hb => Nat.lt_of_lt_of_le HM.out.lt hb); have HPA := Lib.hid hpa; replace HM := Lib.hid (HM.out.keep hk); clear ha hk hpa)
    | (refine wpList_answerK (kE x) rfl 118 _ _ rfl rfl HM rfl info9x HA HQ rfl rfl ?_; intro w9 HG HK))
  exact GivenK.fin HG Tryz.results279 rfl _ Tryz.underlying118 rfl info9x rfl fun h => hR.out _ _ ⟨h, Blk.keeps HPA.out HK.out (by omega)⟩

set_option maxHeartbeats 2000000 in
theorem prodX0 (S : ByteArray) (i j : Nat) (x : E) (hj : j ≤ S.size) (hS : S.size ≤ 100000) (h : LX 290 S i x j) (hno : ∀ t ∈ ([[42], [47], [37]] : List Bs), mark (tl S) j t = none) : LX 286 S i x j := by
  intro pb w hp
  refine of_post fun R hR => ?_
  have hlt := hp.lt
  have hx1 := ext_al w (.cells zero9x 118)
  have hx2 := ext_al (w.alloc (.cells zero9x 118)) (.cells #[.string ⟨#[42]⟩, .string ⟨#[47]⟩, .string ⟨#[37]⟩] 9)
  have HM := Lib.hid ((madeK (S := fun b => b = pb) w zero9x 118 (by rintro b rfl; exact hlt)).on hx2)
  have hsz : ((w.alloc (.cells zero9x 118)).alloc (.cells #[.string ⟨#[42]⟩, .string ⟨#[47]⟩, .string ⟨#[37]⟩] 9)).heap.size = w.heap.size + 2 := by rw [World.size_alloc, World.size_alloc]
  have HC := Lib.hid (chainX0 290 S i j x [⟨#[42]⟩, ⟨#[47]⟩, ⟨#[37]⟩] 16384 (enters_of Tryz.func290 (by kernel_rfl) rfl) hj hS h (by decide) (fun m hm => hno _ (List.mem_map_of_mem (f := tl) (List.getElem_mem hm))) (by decide) (by decide) pb (some ⟨w.heap.size + 1, 0, none⟩) 3 ((w.alloc (.cells zero9x 118)).alloc (.cells #[.string ⟨#[42]⟩, .string ⟨#[47]⟩, .string ⟨#[37]⟩] 9)) (hp.on (hx1.trans' hx2)) (cellsAt_new2 w (.cells zero9x 118) [.string ⟨#[42]⟩, .string ⟨#[47]⟩, .string ⟨#[37]⟩] 9) (fun b o e => by cases e; omega))
  clear hp h hno hx1 hx2
  go_enter Tryz.func286, Tryz.ntmps286
  go_wp2_with (first
    | (go_at_call 220; refine HC.out.mono ?_; rintro r w1 ⟨⟨⟨cs, rfl, ha⟩, hk⟩, hpa⟩; have HA := Lib.hid ha; have HQ : Hid (∀ b, Fr _ b → w.heap.size < b) := Lib.hid (fun b hb => Nat.lt_of_lt_of_le HM.out.lt hb); have HPA := Lib.hid hpa; replace HM := Lib.hid (HM.out.keep hk); clear ha hk hpa)
    | (refine wpList_answerK (kE x) rfl 118 _ _ rfl rfl HM rfl info9x HA HQ rfl rfl ?_; intro w9 HG HK))
  exact GivenK.fin HG Tryz.results286 rfl _ Tryz.underlying118 rfl info9x rfl fun h => hR.out _ _ ⟨h, Blk.keeps HPA.out HK.out (by omega)⟩

set_option maxHeartbeats 2000000 in
theorem prodX1_2 (S : ByteArray) (i j j2 j3 : Nat) (x y : E) (hj : j ≤ S.size) (hj3 : j3 ≤ S.size) (hS : S.size ≤ 100000) (h1 : LX 290 S i x j) (h2 : LX 290 S j2 y j3)
    (hno : ∀ t ∈ ([[42], [47]] : List Bs), mark (tl S) j t = none) (hyes : mark (tl S) j [37] = some j2) (hno2 : ∀ t ∈ ([[42], [47], [37]] : List Bs), mark (tl S) j3 t = none) : LX 286 S i (bin [37] x y) j3 := by
  intro pb w hp
  refine of_post fun R hR => ?_
  have hlt := hp.lt
  have hx1 := ext_al w (.cells zero9x 118)
  have hx2 := ext_al (w.alloc (.cells zero9x 118)) (.cells #[.string ⟨#[42]⟩, .string ⟨#[47]⟩, .string ⟨#[37]⟩] 9)
  have HM := Lib.hid ((madeK (S := fun b => b = pb) w zero9x 118 (by rintro b rfl; exact hlt)).on hx2)
  have hsz : ((w.alloc (.cells zero9x 118)).alloc (.cells #[.string ⟨#[42]⟩, .string ⟨#[47]⟩, .string ⟨#[37]⟩] 9)).heap.size = w.heap.size + 2 := by rw [World.size_alloc, World.size_alloc]
  have HC := Lib.hid (chainX1 290 S i j j2 j3 x y [⟨#[42]⟩, ⟨#[47]⟩, ⟨#[37]⟩] 2 (by decide) 16384 (enters_of Tryz.func290 (by kernel_rfl) rfl) hj hj3 hS h1 h2 (by decide) (fun m hm hmk => by
    have e : ([[42], [47]] : List Bs) = (([⟨#[42]⟩, ⟨#[47]⟩, ⟨#[37]⟩] : List ByteArray).take 2).map tl := rfl
    rw [e] at hno
    refine hno _ (List.mem_map_of_mem (f := tl) ?_)
    exact List.mem_take_iff_getElem.2 ⟨m, by omega, rfl⟩) ⟨by decide, by decide, hyes, by decide⟩ (.inr (fun m hm => hno2 _ (List.mem_map_of_mem (f := tl) (List.getElem_mem hm)))) (by decide) (by decide) pb (some ⟨w.heap.size + 1, 0, none⟩) 3 ((w.alloc (.cells zero9x 118)).alloc (.cells #[.string ⟨#[42]⟩, .string ⟨#[47]⟩, .string ⟨#[37]⟩] 9)) (hp.on (hx1.trans' hx2)) (cellsAt_new2 w (.cells zero9x 118) [.string ⟨#[42]⟩, .string ⟨#[47]⟩, .string ⟨#[37]⟩] 9) (fun b o e => by cases e; omega))
  clear hp h1 h2 hno hyes hx1 hx2 hno2
  go_enter Tryz.func286, Tryz.ntmps286
  go_wp2_with (first
    | (go_at_call 220; refine HC.out.mono ?_; rintro r w1 ⟨⟨⟨cs, rfl, ha⟩, hk⟩, hpa⟩; have HA := Lib.hid ha; have HQ : Hid (∀ b, Fr _ b → w.heap.size < b) := Lib.hid (fun b hb => Nat.lt_of_lt_of_le HM.out.lt hb); have HPA := Lib.hid hpa; replace HM := Lib.hid (HM.out.keep hk); clear ha hk hpa)
    | (refine wpList_answerK (kE (bin [37] x y)) rfl 118 _ _ rfl rfl HM rfl info9x HA HQ rfl rfl ?_; intro w9 HG HK))
  exact GivenK.fin HG Tryz.results286 rfl _ Tryz.underlying118 rfl info9x rfl fun h => hR.out _ _ ⟨h, Blk.keeps HPA.out HK.out (by omega)⟩

set_option maxHeartbeats 2000000 in
theorem notX0 (S : ByteArray) (i j : Nat) (x : E) (hi : i ≤ S.size) (hS : S.size ≤ 100000) (h : LX 270 S i x j) (hno : mark (tl S) i [110, 111, 116] = none) : LX 253 S i x j := by
  intro pb w hp
  refine of_post fun R hR => ?_
  have hlt := hp.lt
  have HM := Lib.hid (madeK (S := fun b => b = pb) w zero9x 118 (by rintro b rfl; exact hlt))
  have HC := Lib.hid (signedX 270 ⟨#[110, 111, 116]⟩ ⟨#[110, 111, 116]⟩ S i j x (enters_of Tryz.func270 (by kernel_rfl) rfl) hi hS h hno pb _ (hp.on (ext_al w (.cells zero9x 118))))
  clear hp h hno
  go_enter Tryz.func253, Tryz.ntmps253
  go_wp2_with (first
    | (go_at_call 269; refine HC.out.mono ?_; rintro r w1 ⟨⟨⟨cs, rfl, ha⟩, hk⟩, hpa⟩; have HA := Lib.hid ha; have HQ : Hid (∀ b, Fr _ b → w.heap.size < b) := Lib.hid (fun b hb => Nat.lt_of_lt_of_le HM.out.lt hb); have HPA := Lib.hid hpa; replace HM := Lib.hid (HM.out.keep hk); clear ha hk hpa)
    | (refine wpList_answerK (kE x) rfl 118 _ _ rfl rfl HM rfl info9x HA HQ rfl rfl ?_; intro w9 HG HK))
  exact GivenK.fin HG Tryz.results253 rfl _ Tryz.underlying118 rfl info9x rfl fun h => hR.out _ _ ⟨h, Blk.keeps HPA.out HK.out (by omega)⟩

set_option maxHeartbeats 2000000 in
theorem signX0 (S : ByteArray) (i j : Nat) (x : E) (hi : i ≤ S.size) (hS : S.size ≤ 100000) (h : LX 291 S i x j) (hno : mark (tl S) i [45] = none) : LX 290 S i x j := by
  intro pb w hp
  refine of_post fun R hR => ?_
  have hlt := hp.lt
  have HM := Lib.hid (madeK (S := fun b => b = pb) w zero9x 118 (by rintro b rfl; exact hlt))
  have HC := Lib.hid (signedX 291 ⟨#[45]⟩ ⟨#[110, 101, 103]⟩ S i j x (enters_of Tryz.func291 (by kernel_rfl) rfl) hi hS h hno pb _ (hp.on (ext_al w (.cells zero9x 118))))
  clear hp h hno
  go_enter Tryz.func290, Tryz.ntmps290
  go_wp2_with (first
    | (go_at_call 269; refine HC.out.mono ?_; rintro r w1 ⟨⟨⟨cs, rfl, ha⟩, hk⟩, hpa⟩; have HA := Lib.hid ha; have HQ : Hid (∀ b, Fr _ b → w.heap.size < b) := Lib.hid (fun b hb => Nat.lt_of_lt_of_le HM.out.lt hb); have HPA := Lib.hid hpa; replace HM := Lib.hid (HM.out.keep hk); clear ha hk hpa)
    | (refine wpList_answerK (kE x) rfl 118 _ _ rfl rfl HM rfl info9x HA HQ rfl rfl ?_; intro w9 HG HK))
  exact GivenK.fin HG Tryz.results290 rfl _ Tryz.underlying118 rfl info9x rfl fun h => hR.out _ _ ⟨h, Blk.keeps HPA.out HK.out (by omega)⟩

end Go.Proofs.YtnpaikdaogikcaaGreatDoor

/- How great a term is, how deep; its parts in memory, one by one. -/
namespace Go.Proofs.YtnpaikdaogikcaaGreatDoor
set_option maxRecDepth 100000
open Go.RowKit
set_option linter.unusedVariables false
set_option linter.unusedSimpArgs false

mutual
def T.size : T → Nat
  | .mk _ _ _ _ _ parts _ _ => T.sizes parts + 1
def T.sizes : List T → Nat
  | [] => 0
  | x :: l => T.size x + T.sizes l
end
theorem All2.mem2 {α β : Type} {R : α → β → Prop} {l : List α} {m : List β} (h : All2 R l m) {b : β} (hb : b ∈ m) : ∃ a, a ∈ l ∧ R a b := by
  induction h with
  | nil => simp at hb
  | cons h t ih =>
    rcases List.mem_cons.1 hb with e | e
    · exact ⟨_, List.mem_cons_self .., e ▸ h⟩
    · obtain ⟨a, ha, hr⟩ := ih e
      exact ⟨a, List.mem_cons_of_mem _ ha, hr⟩


/-- Of rows, one behind the other, one. -/
theorem rows_range {k : Nat} {w : World} {b o : Nat} {ics : List (List Value)} (h : ∀ c ∈ ics, c.length = k) (hc : ∀ j u, ics.flatten[j]? = some u → w.cell? ⟨b, o + j, none⟩ = some u) {i : Nat} {c : List Value} (hi : ics[i]? = some c) : w.rangeAt b (o + i * k) c := fun j v hv => by
  have hl := h c (List.mem_of_getElem? hi)
  have hj : j < k := by have := (List.getElem?_eq_some_iff.1 hv).1; omega
  have := flatten_get h hi hj
  rw [show o + i * k + j = o + (k * i + j) by rw [Nat.mul_comm]; omega]
  exact hc _ _ (this.trans hv)
theorem T.size_pos (x : T) : 1 ≤ x.size := by cases x; simp [T.size]
theorem T.sizes_append (l m : List T) : T.sizes (l ++ m) = T.sizes l + T.sizes m := by
  induction l with
  | nil => simp [T.sizes]
  | cons x l ih => simp only [List.cons_append, T.sizes, ih]; omega
theorem sizesT_len (l : List T) : l.length ≤ T.sizes l := by
  induction l with
  | nil => simp
  | cons x l ih => have := x.size_pos; simp only [List.length_cons, T.sizes]; omega


mutual
theorem T.depth_size : ∀ x : T, T.depth x ≤ T.size x
  | .mk _ _ _ _ _ parts _ _ => by simp only [T.depth, T.size]; have := T.depths_sizes parts; omega
theorem T.depths_sizes : ∀ l : List T, T.depths l ≤ T.sizes l
  | [] => by simp [T.depths]
  | x :: l => by simp only [T.depths, T.sizes]; have := T.depth_size x; have := T.depths_sizes l; omega
end
theorem T.sizes_mem {l : List T} {x : T} (h : x ∈ l) : x.size ≤ T.sizes l := by
  induction l with
  | nil => cases h
  | cons y l ih => simp only [T.sizes]; rcases List.mem_cons.1 h with e | e; subst e; omega; have := ih e; omega
/-- A term's parts in memory, one by one. -/
theorem RdTs_row {p : Nat → Prop} {w : World} {args : List T} {ics : List (List Value)} {b o : Nat} (h : RdTs p w args ics) (hc : ∀ j u, ics.flatten[j]? = some u → w.cell? ⟨b, o + j, none⟩ = some u) {i : Nat} (hi : i < args.length) : ∃ c, RdT p w args[i] c ∧ w.rangeAt b (o + i * 13) c := by
  have hA := (RdTs_iff _ _ _ _).1 h
  obtain ⟨c, h1, h2⟩ := hA.get hi
  refine ⟨c, h2, rows_range (fun c hc => ?_) hc h1⟩
  obtain ⟨a, _, ha⟩ := hA.mem2 hc
  exact ha.len
theorem depthsT_take (l : List T) (i : Nat) (h : i < l.length) : T.depths (l.take (i + 1)) = max (T.depths (l.take i)) (T.depth l[i]) := by
  induction l generalizing i with
  | nil => simp at h
  | cons x l ih =>
    cases i with
    | zero => simp [T.depths]
    | succ i =>
      have := ih i (by simpa using h)
      simp only [List.take_succ_cons, T.depths, List.getElem_cons_succ, this]
      omega
theorem depthsT_mem (l : List T) (i : Nat) (h : i < l.length) : T.depth l[i] ≤ T.depths l := by
  induction l generalizing i with
  | nil => simp at h
  | cons x l ih =>
    cases i with
    | zero => simp [T.depths]; omega
    | succ i =>
      have := ih i (by simpa using h)
      simp only [T.depths, List.getElem_cons_succ]; omega
theorem depthsT_take_le (l : List T) (i : Nat) : T.depths (l.take i) ≤ T.depths l := by
  induction l generalizing i with
  | nil => simp
  | cons x l ih => cases i with
    | zero => simp [T.depths]
    | succ i => have := ih i; simp only [List.take_succ_cons, T.depths]; omega
def T.kind : T → Int | .mk k _ _ _ _ _ _ _ => k
end Go.Proofs.YtnpaikdaogikcaaGreatDoor
