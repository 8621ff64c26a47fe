/- The terms' parser: a filter. -/
import Derived.Test.YtnpaikdaogikcaaGreatDoorG20
import Derived.Test.YtnpaikdaogikcaaGreatDoorG21
import Derived.Test.YtnpaikdaogikcaaGreatDoorG09
import Derived.Test.YtnpaikdaogikcaaGreatDoorG05
import Derived.Deep.CutBlock
import Derived.Deep.DeepCutAuto

namespace Go.Proofs.YtnpaikdaogikcaaGreatDoor
set_option maxRecDepth 100000
open Go.RowKit
set_option linter.unusedVariables false
set_option linter.unusedSimpArgs false

/-- A method of the terms' parser reads a term. -/
def LT (f : FuncId) (S : ByteArray) (i : Nat) (t : T) (j : Nat) : Prop := ∀ (pb : Nat) (w : World), PA 66 w pb S i 0 0 → Calls Tryz.prog f #[.pointer (some ⟨pb, 0, none⟩)] w (GTerm pb S j t w)
abbrev tWhere (t : T) (x : E) : T := .mk 9 [] .none [] [] [t] [x] []
abbrev whereC (P X : Value) : Array Value := #[.int .i64 9, .string ⟨#[]⟩, .int .i64 0, .bool false, .int .i64 0, .string ⟨#[]⟩, .slice none 0 0, .slice none 0 0, .slice none 0 0, .slice none 0 0, P, X, .slice none 0 0]
abbrev T13 (x0 : Int) (x1 : ByteArray) (x2 : Int) (x3 : Bool) (x4 : Int) (x5 : ByteArray) (x6 : Option Addr) (x7 x8 : Nat) (x9 : Option Addr) (y0 y1 : Nat) (y2 : Option Addr) (y3 y4 : Nat) (y5 : Option Addr) (y6 y7 : Nat) (y8 : Option Addr) (y9 z0 : Nat) (z1 : Option Addr) (z2 z3 : Nat) (z4 : Option Addr) (z5 z6 : Nat) : Array Value :=
  #[.int .i64 x0, .string x1, .int .i64 x2, .bool x3, .int .i64 x4, .string x5, .slice x6 x7 x8, .slice x9 y0 y1, .slice y2 y3 y4, .slice y5 y6 y7, .slice y8 y9 z0, .slice z1 z2 z3, .slice z4 z5 z6]
theorem cellsFrom_blk {p : Nat → Prop} {w : World} {b : Nat} {cs : Array Value} {t : TypeId} (h : Blk w b cs t) (hp : p b) : CellsFrom p w (some ⟨b, 0, none⟩) [cs.toList].flatten := fun _ =>
  ⟨b, 0, rfl, hp, fun k u hk => by rw [Nat.zero_add, h.cell k, ← hk]; simp [← Array.getElem?_toList]⟩
theorem rdV_none (p : Nat → Prop) (w : World) : RdV p w .none [.int .i64 0, .bool false, .int .i64 0, .string ⟨#[]⟩, .slice none 0 0, .slice none 0 0] := by
  simp only [V.none, RdV]
  exact ⟨none, 0, none, 0, [], rfl, Nat.le_refl _, Nat.le_refl _, rfl, CellsFrom.nil _ _ _, CellsFrom.nil _ _ _⟩
theorem rdT_where {p : Nat → Prop} {w : World} {t : T} {x : E} {ct cx : Array Value} {tt tx : TypeId} {tb xb : Nat} (ht : RdT p w t ct.toList) (hx : RdE p w x cx.toList) (h1 : Blk w tb ct tt) (h2 : Blk w xb cx tx) (p1 : p tb) (p2 : p xb) :
    AT1 (tWhere t x) p w (whereC (.slice (some ⟨tb, 0, none⟩) 1 1) (.slice (some ⟨xb, 0, none⟩) 1 1)) :=
  RdT_of (K := none) (kc := 0) (W := none) (wc := 0) (A := some ⟨tb, 0, none⟩) (c := 1) (X := some ⟨xb, 0, none⟩) (xc := 1) (Z := none) (zc := 0) (ics := [ct.toList]) (xcs := [cx.toList]) (rdV_none p w) (Nat.le_refl _) (Nat.le_refl _) (Nat.le_refl _) (Nat.le_refl _) (Nat.le_refl _) (CellsFrom.nil _ _ _) (CellsFrom.nil _ _ _) (.cons ht .nil) (cellsFrom_blk h1 p1) (.cons hx .nil) (cellsFrom_blk h2 p2) (CellsFrom.nil _ _ _)
set_option maxHeartbeats 4000000 in
theorem whereT (S : ByteArray) (i j1 j2 j3 j4 : Nat) (t : T) (x : E) (hS : S.size ≤ 100000) (hT : LT 30 S i t j1) (h1 : j1 ≤ S.size) (hm1 : mark (tl S) j1 [44] = some j2) (h2 : j2 ≤ S.size)
    (hX : LX 182 S j2 x j3) (hs : x.size ≤ 1000) (hd : E.depth x ≤ 32) (h3 : j3 ≤ S.size) (hm2 : mark (tl S) j3 [41] = some j4) : LT 59 S i (tWhere t x) j4 := by
  intro pb w hp
  refine of_post fun R hR => ?_
  have hlt := hp.lt
  have HM := Lib.hid (madeK (S := fun b => b = pb) w zero13a 51 (by rintro b rfl; exact hlt))
  have HPA := Lib.hid (hp.on (ext_al w (.cells zero13a 51)))
  have HTM := Lib.hid (hT pb _ HPA.out)
  have HN1 := fun W h => Lib.hid (needT S ⟨#[44]⟩ j1 j2 pb 0 W h h1 hS (by decide) (by decide) hm1 (.inl (by decide)))
  have HN2 := fun W h => Lib.hid (needT S ⟨#[41]⟩ j3 j4 pb 0 W h h3 hS (by decide) (by decide) hm2 (.inl (by decide)))
  have HEX := fun W h => Lib.hid (exprT S j2 j3 pb x W h h2 hS hX hs hd)
  clear hp hT hm1 hm2 hX hs hd
  go_enter Tryz.func59, Tryz.ntmps59
  go_upto_region 2 with (go_at_call 30; refine HTM.out.mono ?_; rintro r w1 ⟨⟨⟨cs, rfl, ha⟩, hk⟩, hpa⟩; obtain ⟨x0, x1, x2, x3, x4, x5, x6, x7, x8, x9, y0, y1, y2, y3, y4, y5, y6, y7, y8, y9, z0, z1, z2, z3, z4, z5, z6, rfl⟩ := RdT.thirteenA ha; have HA1 := Lib.hid ha; have HK1 := Lib.hid hk; have HP1 := Lib.hid hpa; clear ha hk hpa)
  have hxa := ext_al w1 (.cells (T13 x0 x1 x2 x3 x4 x5 x6 x7 x8 x9 y0 y1 y2 y3 y4 y5 y6 y7 y8 y9 z0 z1 z2 z3 z4 z5 z6) 51)
  have hxb := ext_al (w1.alloc (.cells (T13 x0 x1 x2 x3 x4 x5 x6 x7 x8 x9 y0 y1 y2 y3 y4 y5 y6 y7 y8 y9 z0 z1 z2 z3 z4 z5 z6) 51)) (.cells (whereC (.slice (some ⟨w1.heap.size, 0, none⟩) 1 1) (.slice none 0 0)) 51)
  have HBV := Lib.hid (Blk.new (w1.alloc (.cells (T13 x0 x1 x2 x3 x4 x5 x6 x7 x8 x9 y0 y1 y2 y3 y4 y5 y6 y7 y8 y9 z0 z1 z2 z3 z4 z5 z6) 51)) (whereC (.slice (some ⟨w1.heap.size, 0, none⟩) 1 1) (.slice none 0 0)) 51)
  have HTB := Lib.hid ((Blk.new w1 (T13 x0 x1 x2 x3 x4 x5 x6 x7 x8 x9 y0 y1 y2 y3 y4 y5 y6 y7 y8 y9 z0 z1 z2 z3 z4 z5 z6) 51).on hxb)
  have HSZ : Hid ((w1.alloc (.cells (T13 x0 x1 x2 x3 x4 x5 x6 x7 x8 x9 y0 y1 y2 y3 y4 y5 y6 y7 y8 y9 z0 z1 z2 z3 z4 z5 z6) 51)).heap.size = w1.heap.size + 1) := Lib.hid (World.size_alloc _ _)
  rw [HSZ.out] at HBV
  have hwl : w.heap.size < w1.heap.size := Nat.lt_of_lt_of_le HM.out.lt HK1.out.size
  have HA2 : Hid (RdT (fun b => w.heap.size < b ∧ b < w1.heap.size) _ t _) := Lib.hid (RdT.on (hxa.trans' hxb) _ _ (RdT.mono (fun b hb => ⟨Nat.lt_of_lt_of_le HM.out.lt hb.1, hb.2⟩) _ _ (RdT.lt _ _ HA1.out)))
  have HP2 := Lib.hid (HP1.out.on (hxa.trans' hxb))
  have HM2 := Lib.hid ((HM.out.keep HK1.out).on (hxa.trans' hxb))
  clear hxa hxb HA1 HP1 HK1 HTM HPA
  generalize (w1.alloc (.cells (T13 x0 x1 x2 x3 x4 x5 x6 x7 x8 x9 y0 y1 y2 y3 y4 y5 y6 y7 y8 y9 z0 z1 z2 z3 z4 z5 z6) 51)).alloc (.cells (whereC (.slice (some ⟨w1.heap.size, 0, none⟩) 1 1) (.slice none 0 0)) 51) = w2 at *
  clear HSZ
  generalize w1.heap.size = tb at *
  go_upto_region 3 with (go_at_call 29; refine (HN1 _ HP2.out).out.mono ?_; rintro r w3 ⟨rfl, hpm⟩; have HPM3 := Lib.hid hpm; have hv3 := hpm.keeps; have HB3 : Hid (Blk w3 (tb + 1) (whereC (.slice (some ⟨tb, 0, none⟩) 1 1) (.slice none 0 0)) 51) := Lib.hid (HBV.out.keeps hv3 (by show ¬ tb + 1 = pb; omega)); clear hpm hv3)
  go_upto_region 4 with (go_at_call 99; refine (HEX _ HPM3.out.at_).out.mono ?_; rintro r w4 ⟨⟨⟨cs, rfl, ha⟩, hk⟩, hpa⟩; obtain ⟨xo, xm, xk, xb, xn, xs, xA, xla, xc, xB, xlb, xd, xC, xlc, xe, rfl⟩ := AE1.nine ha; have HA4 := Lib.hid ha; have HK4 := Lib.hid hk; have HP4 := Lib.hid hpa; have HB4 := Lib.hid ((HB3.out.keeps hk (by show ¬ tb + 1 = pb; omega)).on (ext_al w4 (.cells (X9 xo xm xk xb xn xs xA xla xc xB xlb xd xC xlc xe) 118))); have hc4 := HB4.out.cell; have hf4 := HB4.out.frozen; clear ha hk hpa)
  have hx4 := ext_al w4 (.cells (X9 xo xm xk xb xn xs xA xla xc xB xlb xd xC xlc xe) 118)
  have h34 := HPM3.out.keeps.size
  have h44 := HK4.out.size
  have htl := HTB.out.lt
  have hb3 := HB3.out.lt
  have hk25 : Keeps (fun b => b = pb ∨ b = tb + 1) w2 ((w4.alloc (.cells (X9 xo xm xk xb xn xs xA xla xc xB xlb xd xC xlc xe) 118)).setCell ⟨tb + 1, 11, none⟩ (.slice (some ⟨w4.heap.size, 0, none⟩) 1 1)) := (((HPM3.out.keeps.trans HK4.out).trans (Keeps.of_ext hx4)).mono (fun k _ e => .inl e)).trans ((Keeps.set _ ⟨tb + 1, 11, none⟩ _).mono fun k _ e => .inr e)
  have hkx : Keeps (fun b => b = tb + 1) w4 ((w4.alloc (.cells (X9 xo xm xk xb xn xs xA xla xc xB xlb xd xC xlc xe) 118)).setCell ⟨tb + 1, 11, none⟩ (.slice (some ⟨w4.heap.size, 0, none⟩) 1 1)) := (Keeps.of_ext hx4).trans (Keeps.set _ ⟨tb + 1, 11, none⟩ _)
  have HB5 := Lib.hid (HB4.out.set (i := 11) (.slice (some ⟨w4.heap.size, 0, none⟩) 1 1))
  have HXB := Lib.hid ((Blk.new w4 (X9 xo xm xk xb xn xs xA xla xc xB xlb xd xC xlc xe) 118).keeps (Keeps.set _ ⟨tb + 1, 11, none⟩ (.slice (some ⟨w4.heap.size, 0, none⟩) 1 1)) (by show ¬ w4.heap.size = tb + 1; omega))
  have HTB5 := Lib.hid (HTB.out.keeps hk25 (by rintro (e | e) <;> omega))
  have HAN := Lib.hid (rdT_where (p := fun b => w.heap.size < b) (RdT.mono (fun b hb => hb.1) _ _ (RdT.keeps hk25 (fun b hb e => by rcases e with e | e <;> have := hb.1 <;> have := hb.2 <;> omega) _ _ HA2.out)) (RdE.mono (p := fun b => w.heap.size < b ∧ tb + 1 < b) (fun b hb => hb.1) _ _ (RdE.keeps hkx (fun b hb (e : b = tb + 1) => by have := hb.2; omega) _ _ (RdE.mono (q := fun b => w.heap.size < b ∧ tb + 1 < b) (fun b hb => by have h1 : w3.heap.size ≤ b := hb; omega) _ _ HA4.out))) HTB5.out HXB.out hwl (by omega))
  have HP5 : Hid (PA 66 _ pb S j3 0 0) := Lib.hid (Blk.keeps HP4.out hkx (by show ¬ pb = tb + 1; omega))
  have HM5 := Lib.hid ((((HM2.out.keep HPM3.out.keeps).keep HK4.out).on hx4).far ((Keeps.set _ ⟨tb + 1, 11, none⟩ (.slice (some ⟨w4.heap.size, 0, none⟩) 1 1)).mono fun k _ e => by have h1 : k = tb + 1 := e; omega))
  have HLT : Hid (pb ≠ tb + 1) := Lib.hid (by omega)
  clear hx4 hk25 hkx hc4 hf4 HB4 h34 h44 htl hb3
  generalize (w4.alloc (.cells (X9 xo xm xk xb xn xs xA xla xc xB xlb xd xC xlc xe) 118)).setCell ⟨tb + 1, 11, none⟩ (.slice (some ⟨w4.heap.size, 0, none⟩) 1 1) = w5 at *
  generalize w4.heap.size = xb at *
  have HQ : Hid (∀ b, w.heap.size < b → w.heap.size < b) := Lib.hid fun b h => h
  go_wp2_with (first
    | (go_at_call 29; refine (HN2 _ HP5.out).out.mono ?_; rintro r w6 ⟨rfl, hpm⟩; have HP6 := Lib.hid hpm.at_; have HM6 := Lib.hid (HM5.out.keep hpm.keeps); have HB6 := Lib.hid (HB5.out.keeps hpm.keeps (by have := HLT.out; show ¬ tb + 1 = pb; omega)); have HA6 := Lib.hid (RdT.keeps hpm.keeps (fun b hb (e : b = pb) => by have h1 : w.heap.size < b := hb; omega) _ _ HAN.out); have hcv := HB6.out; clear hpm)
    | (refine wpList_load_blk rfl 51 _ rfl _ _ _ hcv rfl _ Tryz.underlying51 rfl info13p ?_)
    | (refine wpList_answerK (kT (tWhere t x)) rfl 51 _ _ rfl rfl HM6 rfl info13p HA6 HQ rfl rfl ?_; intro w9 HG HK))
  exact GivenK.fin HG Tryz.results59 rfl _ Tryz.underlying51 rfl info13p rfl fun h => hR.out _ _ ⟨h, Blk.keeps HP6.out HK.out (by omega)⟩
end Go.Proofs.YtnpaikdaogikcaaGreatDoor

/- append in a region that draws its order: kept whole, and met by a law. -/
namespace Go.Proofs.YtnpaikdaogikcaaGreatDoor
set_option maxRecDepth 100000
open Go.RowKit
set_option linter.unusedVariables false
set_option linter.unusedSimpArgs false

/-- append, under another name, that no rule opens. -/
def appHid (ats : Array TypeId) (ty : TypeId) (args : Array Value) : Sem Value := Builtin.append_ ats ty args
theorem app_hide {ats : Array TypeId} {ty : TypeId} {args : Array Value} : Builtin.append_ ats ty args = appHid ats ty args := rfl
section
variable {P : Program} {o : Oper} {a : Act} {K : Act → World → Prop} {Q : Exit → Act → World → Prop} {base : Nat} {t1 : TypeId} {u v : Value} {ks : List Value} {ts : List T} {ics : List (List Value)} {w W : World}
theorem upon_push1 (hrow : Hid (PRow base t1 u ks v ts ics w)) (t ty : TypeId) (z : Value) (bytes : Nat) (ht : P.underlying t = some (.slice t1)) (hi : (P.info? t1).map (fun i => (i.zero, i.size, i.bytes)) = some (some z, 1, bytes)) (hz : z.cells.size = 1)
    (k : Value) (h1 : k.oneCell' = true) (B : Nat) (hc : W.cell? ⟨B, 0, none⟩ = some k) (hx : Ext w W) (hn : Hid (ks.length ≤ 1000000)) (hb : bytes ≤ 100000)
    (h : ∀ u1 w1, Hid (PRow base t1 u1 (ks ++ [k]) v ts ics w1) → Hid (Keeps (fun b => base ≤ b) w w1) → K (a.put o.dst u1) w1) :
    o.upon P a K Q (((appHid #[t, t] ty #[u, .slice (some ⟨B, 0, none⟩) 1 1]).run P W).andThen fun v w' => .ok (.value v) w') := by
  obtain ⟨i, hq, hs'⟩ := Option.map_eq_some_iff.1 hi
  simp only [Prod.mk.injEq] at hs'
  obtain ⟨hzz, hsz, hby⟩ := hs'
  have hr := hrow.out.on hx
  have hnn := hn.out
  have hnb : (ks.length + 1) * bytes ≤ 140737488355328 := by
    have := Nat.mul_le_mul (show ks.length + 1 ≤ 1000001 by omega) hb
    omega
  obtain ⟨v', w', hrun, h2, h3, h4⟩ := run_append_src (P := P) W base t ty t1 i z 1 bytes ht hq hzz hsz hby hz (by omega) u ks.length ks hr.own (some ⟨B, 0, none⟩) 1 1 [k] (by simp) (fun _ => ⟨B, 0, rfl, fun j x hj => by
    cases j with
    | zero => simp at hj; subst hj; simpa using hc
    | succ j => simp at hj⟩) (by intro x hx; simp only [List.mem_singleton] at hx; subst hx; exact h1) hnb (by unfold maxLen; omega) hr.le
  have hp : Push W u w' v' := ⟨h3, h4.imp id fun e => ⟨_, e, Nat.le_refl _⟩⟩
  unfold appHid
  rw [hrun]
  show K (a.put o.dst v') w'
  exact h _ _ (Lib.hid (hr.push1 h2 hp)) (Lib.hid ((Keeps.of_ext hx).trans (hr.keep1 hp fun b hb => hb)))
theorem upon_pushT (hrow : Hid (PRow base t1 u ks v ts ics w)) (t ty : TypeId) (z : Value) (bytes : Nat) (ht : P.underlying t = some (.slice 51)) (hi : (P.info? 51).map (fun i => (i.zero, i.size, i.bytes)) = some (some z, 13, bytes)) (hz : z.cells.size = 13)
    (x : T) (cs : List Value) (hy : Hid (RdT (fun b => OffT base u b ∧ v.ownBlock ≠ some b) w x cs)) (B : Nat) (hc : CellsAt W (some ⟨B, 0, none⟩) cs) (hx : Ext w W) (hn : Hid (ts.length ≤ 1000000)) (hb : bytes ≤ 100000)
    (h : ∀ v1 w1 ics1, Hid (PRow base t1 u ks v1 (ts ++ [x]) ics1 w1) → Hid (Keeps (fun b => base ≤ b) w w1) → K (a.put o.dst v1) w1) :
    o.upon P a K Q (((appHid #[t, t] ty #[v, .slice (some ⟨B, 0, none⟩) 1 1]).run P W).andThen fun v w' => .ok (.value v) w') := by
  obtain ⟨i, hq, hs'⟩ := Option.map_eq_some_iff.1 hi
  simp only [Prod.mk.injEq] at hs'
  obtain ⟨hzz, hsz, hby⟩ := hs'
  have hr := hrow.out.on hx
  have hnn := hn.out
  have hy2 := RdT.on hx _ _ hy.out
  have hnb : (ts.length + 1) * bytes ≤ 140737488355328 := by
    have := Nat.mul_le_mul (show ts.length + 1 ≤ 1000001 by omega) hb
    omega
  obtain ⟨v', w', hrun, h2, h3, h4⟩ := run_append_src (P := P) W base t ty 51 i z 13 bytes ht hq hzz hsz hby hz (by omega) v ts.length ics.flatten hr.row.own (some ⟨B, 0, none⟩) 1 1 cs (by simp [hy2.len]) hc hy2.one hnb (by unfold maxLen; omega) hr.le
  have hp : Push W v w' v' := ⟨h3, h4.imp id fun e => ⟨_, e, Nat.le_refl _⟩⟩
  unfold appHid
  rw [hrun]
  show K (a.put o.dst v') w'
  have mv : ∀ {x : T} {c : List Value}, RdT (fun b => OffT base u b ∧ v.ownBlock ≠ some b) W x c → RdT (fun b => OffT base u b ∧ v'.ownBlock ≠ some b) w' x c := fun hr =>
    RdT.move (fun B ds hc => ((hc.lt.keeps (Keeps.of_grown hp.grown) fun b hb e => hb.1.2 e).mono fun b hb => ⟨hb.1.1, hp.apart hb.2 hb.1.2⟩)) _ _ hr
  have hrow' : RowG RdT 51 13 base (OffT base u) w' v' (ts ++ [x]) (ics ++ [cs]) := ⟨by simpa using h2, (hr.row.all.imp fun _ _ hr => mv hr).append (.cons (mv hy2) .nil)⟩
  exact h _ _ _ (Lib.hid (hr.pushT hrow' hp)) (Lib.hid ((Keeps.of_ext hx).trans (hr.keepT hp fun b hb => hb)))
end
end Go.Proofs.YtnpaikdaogikcaaGreatDoor

/- The terms' parser: as many things as follow, with commas between. -/
namespace Go.Proofs.YtnpaikdaogikcaaGreatDoor
set_option maxRecDepth 100000
open Go.RowKit
set_option linter.unusedVariables false
set_option linter.unusedSimpArgs false

def atOf (pb : Nat) (w : World) : Nat := match w.cell? ⟨pb, 1, none⟩ with | some (.int _ n) => n.toNat | _ => 0
theorem PA.atOf {t : TypeId} {w : World} {pb i : Nat} {S : ByteArray} {pl c : Int} (h : PA t w pb S i pl c) : atOf pb w = i := by
  unfold Go.Proofs.YtnpaikdaogikcaaGreatDoor.atOf; rw [h.cell]; simp
/-- What one thing leaves: it is the last, or another one follows. -/
structure Another (pb : Nat) (S E : ByteArray) (St Fin : Nat → World → Prop) (i b : Nat) (w' : World) : Prop where
  pa : PA 66 w' pb S b 0 0
  le : b ≤ S.size
  lt : i < b
  next : (∃ j, mark (tl S) b (tl E) = some j ∧ ∀ w'', PM 66 pb S j 0 0 w' w'' → Fin j w'') ∨
    (mark (tl S) b (tl E) = none ∧ ∃ a, mark (tl S) b [44] = some a ∧ b < a ∧ a ≤ S.size ∧ ∀ w'', PM 66 pb S a 0 0 w' w'' → St a w'')
set_option maxHeartbeats 1000000 in
theorem someT (f : FuncId) (lb : Array Value) (hent : Enters Tryz.prog f) (S E : ByteArray) (pb : Nat) (St Fin : Nat → World → Prop) (hS : S.size ≤ 100000) (hE : 0 < E.size) (hE2 : E.size ≤ 1000) (hl : isLet E[0] = false)
    (hone : ∀ i w, St i w → PA 66 w pb S i 0 0 ∧ i ≤ S.size ∧ Calls Tryz.prog f lb w fun e w' => e = .returned (.tuple #[]) ∧ ∃ b, Another pb S E St Fin i b w')
    (i0 : Nat) (w : World) (h0 : St i0 w) (nn : Bool) (hn : nn = true → mark (tl S) i0 (tl E) = none) :
    Calls Tryz.prog 100 #[.pointer (some ⟨pb, 0, none⟩), .func (.func f) #[] lb, .string E, .bool nn] w fun e w' => e = .returned (.tuple #[]) ∧ ∃ j, Fin j w' := by
  refine of_post fun R hR => ?_
  obtain ⟨hpa, hi, _⟩ := hone i0 w h0
  have HPA := Lib.hid hpa
  have HO := fun i w h => Lib.hid (hone i w h)
  have H0 := Lib.hid h0
  have HL := Lib.hid hl
  unfold Enters at hent
  clear hone hpa h0 hl
  have hgo : ∀ b : Bool, (b = true → mark (tl S) i0 (tl E) = none) → Calls Tryz.prog 100 #[.pointer (some ⟨pb, 0, none⟩), .func (.func f) #[] lb, .string E, .bool b] w R := by
    intro b hb
    have HMN : Hid (b = true → ∀ w, PA 66 w pb S i0 0 0 → Calls Tryz.prog 52 #[.pointer (some ⟨pb, 0, none⟩), .string E] w fun e w' => e = .returned (.bool false) ∧ w' = w) := Lib.hid fun h w hp => markT_no S E i0 pb 0 0 w hp hi hS (.inr (hb h))
    clear hb hn
    cases b
    all_goals
      go_enter Tryz.func100, Tryz.ntmps100
      go_wp2_with (go_at_call 52; refine (HMN.out rfl _ HPA.out).mono ?_; rintro e w ⟨rfl, hw⟩; obtain rfl := hw)
      clear HMN
      go_loopw [] (fun wr => ∃ i, Hid (St i wr)) (fun wr => S.size - atOf pb wr)
      case atStart => exact ⟨i0, H0⟩
      case round =>
        obtain ⟨i, HS⟩ := hrel
        obtain ⟨hpi, hii, hcall⟩ := (HO i _ HS.out).out
        have hc := hpi.cell
        have HC := Lib.hid hcall
        have HAT := Lib.hid hpi.atOf
        clear hcall hpi H0
        go_upto_region 3 with (refine HC.out.mono ?_; rintro e w1 ⟨rfl, b, hb⟩; have HB := Lib.hid hb; clear hb hc)
        obtain ⟨j, hj, hf⟩ | ⟨hm, a, ha, hba, has, hst⟩ := HB.out.next
        · have HF := Lib.hid hf
          have HMY := Lib.hid (markT_yes S E b j pb 0 w1 HB.out.pa HB.out.le hS hE hE2 hj (.inl HL.out))
          clear hj hf
          go_wp2_with (go_at_call 52; refine HMY.out.mono ?_; rintro e w2 ⟨rfl, hm⟩; have HM2 := Lib.hid hm; clear hm)
          exact bodyPost_ret (results_none Tryz.results100 _ _ _) rfl (hR.out _ _ ⟨rfl, j, HF.out _ HM2.out⟩)
        · have HST := Lib.hid hst
          have HMN := Lib.hid (markT_no S E b pb 0 0 w1 HB.out.pa HB.out.le hS (.inr hm))
          have HND := Lib.hid (needT S ⟨#[44]⟩ b a pb 0 w1 HB.out.pa HB.out.le hS (by decide) (by decide) ha (.inl (by decide)))
          have HLT := Lib.hid (show i < a from Nat.lt_trans HB.out.lt hba)
          have HAS := Lib.hid has
          clear hm ha hst hba has
          go_wp2_with (first
            | (go_at_call 52; refine HMN.out.mono ?_; rintro e w1 ⟨rfl, hm⟩; obtain rfl := hm)
            | (go_at_call 29; refine HND.out.mono ?_; rintro e w2 ⟨rfl, hm⟩; have HM2 := Lib.hid hm; clear hm))
          go_roundw
          case rel => exact ⟨a, Lib.hid (HST.out _ HM2.out)⟩
          case measure => have h1 := HM2.out.at_.atOf; have h2 := HAT.out; have h3 := HLT.out; have h4 := HAS.out; omega
  exact hgo nn hn
end Go.Proofs.YtnpaikdaogikcaaGreatDoor
