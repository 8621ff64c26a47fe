/- The terms' parser: a pick's state. -/
import Derived.Test.YtnpaikdaogikcaaGreatDoorG22
import Derived.Test.YtnpaikdaogikcaaGreatDoorG21
import Derived.Test.YtnpaikdaogikcaaGreatDoorG09

namespace Go.Proofs.YtnpaikdaogikcaaGreatDoor
set_option maxRecDepth 100000
open Go.RowKit
set_option linter.unusedVariables false
set_option linter.unusedSimpArgs false

abbrev pickC (u v : Value) : Array Value := #[.int .i64 2, .string ⟨#[]⟩, .int .i64 0, .bool false, .int .i64 0, .string ⟨#[]⟩, .slice none 0 0, .slice none 0 0, .slice none 0 0, u, v, .slice none 0 0, .slice none 0 0]
/-- A pick's state: the parser, the closure's variables, the rows. -/
structure PSt (pb xb ob base : Nat) (S : ByteArray) (i : Nat) (ws : List Int) (ts : List T) (u v : Value) (ics : List (List Value)) (w : World) : Prop where
  pa : PA 66 w pb S i 0 0
  box : Blk w xb #[.pointer (some ⟨pb, 0, none⟩)] 64
  out : Blk w ob (pickC u v) 51
  row : PRow base 3 u (ws.map I64) v ts ics w
theorem cellsAt_new' (w : World) (cs : Array Value) (t : TypeId) : CellsAt (w.alloc (.cells cs t)) (some ⟨w.heap.size, 0, none⟩) cs.toList := by
  have := cellsAt_new w cs.toList t; simpa using this
abbrev KP (pb ob base : Nat) : Nat → Prop := fun b => b = pb ∨ b = ob ∨ base ≤ b
theorem pick_fin {pb xb ob base i : Nat} {S : ByteArray} {wt : Int} {t : T} {ws : List Int} {ts : List T} {u v u1 v1 : Value} {ics : List (List Value)} {w w4 : World} (hpa : Hid (PA 66 w4 pb S i 0 0)) (hxb : Hid (Blk w4 xb #[.pointer (some ⟨pb, 0, none⟩)] 64))
    (hob : Hid (Blk w4 ob (pickC u v) 51)) (hro : Hid (PRow base 3 u1 (ws.map I64 ++ [.int .i64 wt]) v1 (ts ++ [t]) ics w4)) (hke : Hid (Keeps (KP pb ob base) w w4)) (hd : Hid (pb ≠ xb ∧ pb ≠ ob ∧ xb ≠ ob)) (hb : Hid (pb < base ∧ xb < base ∧ ob < base)) :
    Keeps (KP pb ob base) w ((w4.setCell ⟨ob, 9, none⟩ u1).setCell ⟨ob, 10, none⟩ v1) ∧ ∃ u' v' ics', PSt pb xb ob base S i (ws ++ [wt]) (ts ++ [t]) u' v' ics' ((w4.setCell ⟨ob, 9, none⟩ u1).setCell ⟨ob, 10, none⟩ v1) := by
  obtain ⟨d1, d2, d3⟩ := hd.out
  obtain ⟨b1, b2, b3⟩ := hb.out
  have hk : Keeps (fun b => b = ob) w4 ((w4.setCell ⟨ob, 9, none⟩ u1).setCell ⟨ob, 10, none⟩ v1) := (Keeps.set w4 ⟨ob, 9, none⟩ u1).trans (Keeps.set _ ⟨ob, 10, none⟩ v1)
  refine ⟨hke.out.trans (hk.mono fun k _ e => .inr (.inl e)), u1, v1, ics, Blk.keeps hpa.out hk d2, hxb.out.keeps hk d3, (hob.out.set (i := 9) u1).set (i := 10) v1, ?_⟩
  have := hro.out.keeps hk fun b hb e => by omega
  rw [List.map_append]; exact this
/-- A part of a pick is read. -/
def Pick1H (S : ByteArray) : Prop := ∀ (pb xb ob base i a j : Nat) (wt : Int) (t : T) (ws : List Int) (ts : List T) (u v : Value) (ics : List (List Value)) (w : World), i ≤ S.size →
    pb < base → xb < base → ob < base → pb ≠ xb → pb ≠ ob → xb ≠ ob → ws.length ≤ 100000 → ts.length ≤ 100000 →
    PSt pb xb ob base S i ws ts u v ics w → weightAt (tl S) i = some (wt, a) → TermOK S a t j →
    Calls Tryz.prog 101 #[.pointer (some ⟨xb, 0, none⟩), .pointer (some ⟨ob, 0, none⟩)] w fun e w' => e = .returned (.tuple #[]) ∧ Keeps (KP pb ob base) w w' ∧ ∃ u' v' ics', PSt pb xb ob base S j (ws ++ [wt]) (ts ++ [t]) u' v' ics' w'
end Go.Proofs.YtnpaikdaogikcaaGreatDoor

/- The terms' parser: a range. -/
namespace Go.Proofs.YtnpaikdaogikcaaGreatDoor
set_option maxRecDepth 100000
open Go.RowKit
set_option linter.unusedVariables false
set_option linter.unusedSimpArgs false

section
variable {P : Program} {o : Oper} {a : Act} {K : Act → World → Prop} {Q : Exit → Act → World → Prop} {α : Type} {R : (Nat → Prop) → World → α → List Value → Prop} {e : TypeId} {k base : Nat} {G : Nat → Prop} {v : Value} {l : List α} {ics : List (List Value)} {w W : World}
/-- append of one struct, kept whole. -/
theorem upon_pushR (M : Moves R) (hrow : Hid (RowG R e k base G w v l ics)) (t ty : TypeId) (z : Value) (bytes : Nat) (ht : P.underlying t = some (.slice e)) (hi : (P.info? e).map (fun i => (i.zero, i.size, i.bytes)) = some (some z, k, bytes)) (hz : z.cells.size = k) (hk : 0 < k)
    (x : α) (cs : List Value) (hy : Hid (R (fun b => G b ∧ v.ownBlock ≠ some b) W x cs)) (hlen : cs.length = k) (h1 : ∀ u ∈ cs, u.oneCell' = true) (B : Nat) (hc : CellsAt W (some ⟨B, 0, none⟩) cs) (hx : Ext w W) (hn : l.length ≤ 1000000) (hb : bytes ≤ 100000) (hbase : base ≤ W.heap.size)
    (h : ∀ v1 w1, Hid (RowG R e k base G w1 v1 (l ++ [x]) (ics ++ [cs])) → Hid (Push W v w1 v1) → K (a.put o.dst v1) w1) :
    o.upon P a K Q (((appHid #[t, t] ty #[v, .slice (some ⟨B, 0, none⟩) 1 1]).run P W).andThen fun v w' => .ok (.value v) w') := by
  obtain ⟨i, hq, hs'⟩ := Option.map_eq_some_iff.1 hi
  simp only [Prod.mk.injEq] at hs'
  obtain ⟨hzz, hsz, hby⟩ := hs'
  have hr := hrow.out.on M hx
  have hnb : (l.length + 1) * bytes ≤ 140737488355328 := by
    have := Nat.mul_le_mul (show l.length + 1 ≤ 1000001 by omega) hb
    omega
  obtain ⟨v', w', hrun, h2, h3, h4⟩ := run_append_src (P := P) W base t ty e i z k bytes ht hq hzz hsz hby hz hk v l.length ics.flatten hr.own (some ⟨B, 0, none⟩) 1 1 cs (by simp [hlen]) hc h1 hnb (by unfold maxLen; omega) hbase
  have hp : Push W v w' v' := ⟨h3, h4.imp id fun e => ⟨_, e, Nat.le_refl _⟩⟩
  unfold appHid
  rw [hrun]
  show K (a.put o.dst v') w'
  have mv : ∀ {x : α} {c : List Value}, R (fun b => G b ∧ v.ownBlock ≠ some b) W x c → R (fun b => G b ∧ v'.ownBlock ≠ some b) w' x c := fun hr =>
    M.mv _ _ _ _ _ _ (fun B ds hc => ((hc.lt.keeps (Keeps.of_grown hp.grown) fun b hb e => hb.1.2 e).mono fun b hb => ⟨hb.1.1, hp.apart hb.2 hb.1.2⟩)) hr
  exact h _ _ (Lib.hid ⟨by simpa using h2, (hr.all.imp fun _ _ hr => mv hr).append (.cons (mv hy.out) .nil)⟩) (Lib.hid hp)
end
abbrev tRange (x y : E) : T := .mk 1 [] .none [] [] [] [x, y] []
abbrev rangeC (X : Value) : Array Value := #[.int .i64 1, .string ⟨#[]⟩, .int .i64 0, .bool false, .int .i64 0, .string ⟨#[]⟩, .slice none 0 0, .slice none 0 0, .slice none 0 0, .slice none 0 0, .slice none 0 0, X, .slice none 0 0]
theorem info9z : (Tryz.prog.info? 118).map (fun i => (i.zero, i.size, i.bytes)) = some (some (.agg zero9x), 9, 144) := by kernel_rfl
attribute [local go_sem ↓ 2000] app_hide
set_option maxHeartbeats 8000000 in
theorem spanT (S : ByteArray) (i j1 j2 j3 j4 : Nat) (x y : E) (hi : i ≤ S.size) (hS : S.size ≤ 100000) (hX : LX 182 S i x j1) (hsx : x.size ≤ 1000) (hdx : E.depth x ≤ 32) (h1 : j1 ≤ S.size) (hm1 : mark (tl S) j1 [44] = some j2) (h2 : j2 ≤ S.size)
    (hY : LX 182 S j2 y j3) (hsy : y.size ≤ 1000) (hdy : E.depth y ≤ 32) (h3 : j3 ≤ S.size) (hm2 : mark (tl S) j3 [41] = some j4) : LT 55 S i (tRange x y) j4 := by
  intro pb w hp
  refine of_post fun R hR => ?_
  have hlt := hp.lt
  have HM := Lib.hid (madeK (S := fun b => b = pb) w zero13a 51 (by rintro b rfl; exact hlt))
  have HPA := Lib.hid (hp.on (ext_al w (.cells zero13a 51)))
  have HXM := Lib.hid (exprT S i j1 pb x _ HPA.out hi hS hX hsx hdx)
  have HN1 := fun W h => Lib.hid (needT S ⟨#[44]⟩ j1 j2 pb 0 W h h1 hS (by decide) (by decide) hm1 (.inl (by decide)))
  have HN2 := fun W h => Lib.hid (needT S ⟨#[41]⟩ j3 j4 pb 0 W h h3 hS (by decide) (by decide) hm2 (.inl (by decide)))
  have HEY := fun W h => Lib.hid (exprT S j2 j3 pb y W h h2 hS hY hsy hdy)
  clear hp hX hY hm1 hm2 hsx hdx hsy hdy
  go_enter Tryz.func55, Tryz.ntmps55
  go_upto_region 2 with (go_at_call 99; refine HXM.out.mono ?_; rintro r w1 ⟨⟨⟨cs, rfl, ha⟩, hk⟩, hpa⟩; obtain ⟨xo, xm, xk, xb, xn, xs, xA, xla, xc, xB, xlb, xd, xC, xlc, xe, rfl⟩ := AE1.nine ha; have HA1 := Lib.hid ha; have HK1 := Lib.hid hk; have HP1 := Lib.hid hpa; clear ha hk hpa)
  have hxa := ext_al w1 (.cells (X9 xo xm xk xb xn xs xA xla xc xB xlb xd xC xlc xe) 118)
  have hxb := ext_al (w1.alloc (.cells (X9 xo xm xk xb xn xs xA xla xc xB xlb xd xC xlc xe) 118)) (.cells (rangeC (.slice (some ⟨w1.heap.size, 0, none⟩) 1 1)) 51)
  have HBV := Lib.hid (Blk.new (w1.alloc (.cells (X9 xo xm xk xb xn xs xA xla xc xB xlb xd xC xlc xe) 118)) (rangeC (.slice (some ⟨w1.heap.size, 0, none⟩) 1 1)) 51)
  have HSZ : Hid ((w1.alloc (.cells (X9 xo xm xk xb xn xs xA xla xc xB xlb xd xC xlc xe) 118)).heap.size = w1.heap.size + 1) := Lib.hid (World.size_alloc _ _)
  rw [HSZ.out] at HBV
  have hwl : w.heap.size < w1.heap.size := Nat.lt_of_lt_of_le HM.out.lt HK1.out.size
  have HROW : Hid (RowG RdE 118 9 (w.heap.size + 1) (fun b => w.heap.size < b ∧ b ≠ w1.heap.size + 1) ((w1.alloc (.cells (X9 xo xm xk xb xn xs xA xla xc xB xlb xd xC xlc xe) 118)).alloc (.cells (rangeC (.slice (some ⟨w1.heap.size, 0, none⟩) 1 1)) 51)) (.slice (some ⟨w1.heap.size, 0, none⟩) 1 1) [x] [(X9 xo xm xk xb xn xs xA xla xc xB xlb xd xC xlc xe).toList]) := Lib.hid ⟨own_ext ⟨rfl, .inr ⟨w1.heap.size, 1, (X9 xo xm xk xb xn xs xA xla xc xB xlb xd xC xlc xe), rfl, hwl, heap_alloc_new w1 _, Nat.le_refl _, by decide, rfl, rfl⟩⟩ hxb,
    .cons (RdE.on (hxa.trans' hxb) _ _ (RdE.mono (fun b hb => ⟨⟨Nat.lt_of_lt_of_le HM.out.lt hb.1, by have := hb.2; omega⟩, by have := hb.2; simp [Value.ownBlock]; omega⟩) _ _ (RdE.lt _ _ HA1.out))) .nil⟩
  have HP2 := Lib.hid (HP1.out.on (hxa.trans' hxb))
  have HM2 := Lib.hid ((HM.out.keep HK1.out).on (hxa.trans' hxb))
  clear hxa hxb HA1 HP1 HK1 HXM HPA
  generalize (w1.alloc (.cells (X9 xo xm xk xb xn xs xA xla xc xB xlb xd xC xlc xe) 118)).alloc (.cells (rangeC (.slice (some ⟨w1.heap.size, 0, none⟩) 1 1)) 51) = w2 at *
  clear HSZ
  generalize w1.heap.size = tb at *
  go_upto_region 3 with (go_at_call 29; refine (HN1 _ HP2.out).out.mono ?_; rintro r w3 ⟨rfl, hpm⟩; have HPM3 := Lib.hid hpm; have hv3 := hpm.keeps; have HB3 : Hid (Blk w3 (tb + 1) (rangeC (.slice (some ⟨tb, 0, none⟩) 1 1)) 51) := Lib.hid (HBV.out.keeps hv3 (by show ¬ tb + 1 = pb; omega)); clear hpm hv3)
  have HR3 := Lib.hid ((HROW.out.keeps movesE HPM3.out.keeps (fun b hb (e : b = pb) => by have := hb.1; omega) (fun b e (e2 : b = pb) => by simp [Value.ownBlock] at e; omega)).on movesE ((Ext.refl' w3).drewN' 1))
  have hc3 : w3.drew.cell? ⟨tb + 1, 11, none⟩ = some (.slice (some ⟨tb, 0, none⟩) 1 1) := (HB3.out.on ((Ext.refl' w3).drewN' 1)).cell 11
  have htl := HB3.out.lt
  have HPD := Lib.hid (HPM3.out.at_.on ((Ext.refl' w3).drewN' 1))
  have HBD := Lib.hid (HB3.out.on ((Ext.refl' w3).drewN' 1))
  go_region_with (first
    | (go_at_call 99; refine (HEY _ HPD.out).out.mono ?_; rintro r w4 ⟨⟨⟨cs, rfl, ha⟩, hk⟩, hpa⟩; obtain ⟨yo, ym, yk, yb, yn, ys, yA, yla, yc, yB, ylb, yd, yC, ylc, ye, rfl⟩ := AE1.nine ha; have HK4 := Lib.hid hk; have HP4 := Lib.hid hpa; have HB4 := Lib.hid (HBD.out.keeps hk (by show ¬ tb + 1 = pb; omega)); have HR4 := Lib.hid (HR3.out.keeps movesE hk (fun b hb (e : b = pb) => by have := hb.1; omega) (fun b e (e2 : b = pb) => by simp [Value.ownBlock] at e; omega)); have hc4 : w4.cell? ⟨tb + 1, 11, none⟩ = some (.slice (some ⟨tb, 0, none⟩) 1 1) := HB4.out.cell 11; have hc5 : ∀ o, (w4.alloc o).cell? ⟨tb + 1, 11, none⟩ = some (.slice (some ⟨tb, 0, none⟩) 1 1) := fun o => (HB4.out.on (ext_al w4 o)).cell 11; have HY5 : Hid (RdE (fun b => (w.heap.size < b ∧ b ≠ tb + 1) ∧ (Value.slice (some ⟨tb, 0, none⟩) 1 1).ownBlock ≠ some b) (w4.alloc (.cells (X9 yo ym yk yb yn ys yA yla yc yB ylb yd yC ylc ye) 118)) y ((X9 yo ym yk yb yn ys yA yla yc yB ylb yd yC ylc ye) : Array Value).toList) := Lib.hid (RdE.on (ext_al w4 _) _ _ (RdE.mono (fun b hb => by have h1 : w3.heap.size ≤ b := hb; exact ⟨⟨by omega, by omega⟩, by simp [Value.ownBlock]; omega⟩) _ _ ha)); have h4s : w3.heap.size ≤ w4.heap.size := hk.size; clear ha hk hpa)
    | ((refine upon_pushR movesE HR4 48 _ (.agg zero9x) 144 Tryz.underlying48 info9z rfl (by decide) y _ HY5 rfl (RdE.one HY5.out) _ (cellsAt_new' w4 (X9 yo ym yk yb yn ys yA yla yc yB ylb yd yC ylc ye) 118) (ext_al w4 _) (by simp) (by decide) (by rw [World.size_alloc]; omega) ?_); intro v6 w6 HR6 HPU; obtain ⟨A6, c6, rfl⟩ := HR6.out.form; have hk6 := Keeps.of_grown HPU.out.grown; have HB6 := Lib.hid ((HB4.out.on (ext_al w4 (.cells (X9 yo ym yk yb yn ys yA yla yc yB ylb yd yC ylc ye) 118))).keeps hk6 (by show ¬ (Value.slice (some ⟨tb, 0, none⟩) 1 1).ownBlock = some (tb + 1); simp [Value.ownBlock])); have hc6 := HB6.out.cell; have hf6 := HB6.out.frozen; clear hk6))
  all_goals
    have hk45 := (Keeps.of_ext (S := fun b => b = tb) (ext_al w4 (.cells (X9 yo ym yk yb yn ys yA yla yc yB ylb yd yC ylc ye) 118))).trans ((Keeps.of_grown HPU.out.grown).mono fun k _ e => by simp [Value.ownBlock] at e; exact e.symm)
    have hsz6 := HPU.out.size
    rw [World.size_alloc] at hsz6
    have hob : ∀ g, (Value.slice A6 2 c6).ownBlock = some g → w.heap.size < g ∧ g ≠ tb + 1 := fun g hg => by
      have h1 := (HR6.out.own.lt g hg).1
      rcases HPU.out.block with e | ⟨q, e, hq⟩
      · have h2 := hg.symm.trans e; simp [Value.ownBlock] at h2; omega
      · have h2 := hg.symm.trans e; cases h2; rw [World.size_alloc] at hq; omega
    have HR7 := Lib.hid (HR6.out.keeps movesE (Keeps.set w6 ⟨tb + 1, 11, none⟩ (.slice A6 2 c6)) (fun b hb (e : b = tb + 1) => hb.2 e) (fun b hb (e : b = tb + 1) => (hob b hb).2 e))
    have HB7 := Lib.hid (HB6.out.set (i := 11) (.slice A6 2 c6))
    have hp6 : Keeps (fun b => b = tb ∨ b = tb + 1) w4 (w6.setCell ⟨tb + 1, 11, none⟩ (.slice A6 2 c6)) := (hk45.mono fun k _ e => .inl e).trans ((Keeps.set _ _ _).mono fun k _ e => .inr e)
    have HP7 : Hid (PA 66 (w6.setCell ⟨tb + 1, 11, none⟩ (.slice A6 2 c6)) pb S j3 0 0) := Lib.hid (Blk.keeps HP4.out hp6 (by rintro (e | e) <;> omega))
    have HM7 := Lib.hid ((((HM2.out.keep HPM3.out.keeps).on ((Ext.refl' w3).drewN' 1)).keep HK4.out).far (hp6.mono fun k _ e => by rcases e with e | e <;> omega))
    have HAN : Hid (AT1 (tRange x y) (fun b => w.heap.size < b) (w6.setCell ⟨tb + 1, 11, none⟩ (.slice A6 2 c6)) (rangeC (.slice A6 2 c6))) := Lib.hid (RdT_of (K := none) (kc := 0) (W := none) (wc := 0) (A := none) (c := 0) (X := A6) (xc := c6) (Z := none) (zc := 0) (ics := []) (rdV_none _ _) (Nat.le_refl _) (Nat.le_refl _) (Nat.le_refl _) HR7.out.cap (Nat.le_refl _) (CellsFrom.nil _ _ _) (CellsFrom.nil _ _ _) .nil (CellsFrom.nil _ _ _) (HR7.out.all.imp fun _ _ hr => RdE.mono (fun b hb => hb.1.1) _ _ hr) (HR7.out.cells.mono fun b hb => by have h1 : w.heap.size + 1 ≤ b := hb; omega) (CellsFrom.nil _ _ _))
    have HLT : Hid (pb ≠ tb + 1) := Lib.hid (by omega)
    have HQ : Hid (∀ b, w.heap.size < b → w.heap.size < b) := Lib.hid fun b h => h
    clear hk45 hob hp6 hc6 hf6
    go_wp2_with (first
      | (go_at_call 29; refine (HN2 _ HP7.out).out.mono ?_; rintro r w8 ⟨rfl, hpm⟩; have HP8 := Lib.hid hpm.at_; have HM8 := Lib.hid (HM7.out.keep hpm.keeps); have HB8 := Lib.hid (HB7.out.keeps hpm.keeps (by have := HLT.out; show ¬ tb + 1 = pb; omega)); have HA8 := Lib.hid (RdT.keeps hpm.keeps (fun b hb (e : b = pb) => by have h1 : w.heap.size < b := hb; omega) _ _ HAN.out); have hcv := HB8.out; clear hpm)
      | (refine wpList_load_blk rfl 51 _ rfl _ _ _ hcv rfl _ Tryz.underlying51 rfl info13p ?_)
      | (refine wpList_answerK (kT (tRange x y)) rfl 51 _ _ rfl rfl HM8 rfl info13p HA8 HQ rfl rfl ?_; intro w9 HG HK))
    exact GivenK.fin HG Tryz.results55 rfl _ Tryz.underlying51 rfl info13p rfl fun h => hR.out _ _ ⟨h, Blk.keeps HP8.out HK.out (by omega)⟩
end Go.Proofs.YtnpaikdaogikcaaGreatDoor

/- The terms' parser: the term that follows, at other keywords. -/
namespace Go.Proofs.YtnpaikdaogikcaaGreatDoor
set_option maxRecDepth 100000
open Go.RowKit
set_option linter.unusedVariables false
set_option linter.unusedSimpArgs false

set_option maxHeartbeats 4000000 in
theorem term_int (S : ByteArray) (i a j : Nat) (t : T) (hi : i ≤ S.size) (hS : S.size ≤ 100000) (hw : (word (tl S) i).1 = [105, 110, 116]) (h1 : mark (tl S) i [91] = none) (h2 : mark (tl S) i [123] = none)
    (ha : mark (tl S) (word (tl S) i).2 [40] = some a)
    (hsub : ∀ (pb : Nat) (w : World), PA 66 w pb S a 0 0 → Calls Tryz.prog 55 #[.pointer (some ⟨pb, 0, none⟩)] w (GTerm pb S j t w)) : TermOK S i t j := by
  intro pb w hp
  refine of_post fun R hR => ?_
  have hlt := hp.lt
  have HM := Lib.hid (madeK (S := fun b => b = pb) w zero13a 51 (by rintro b rfl; exact hlt))
  have HPA := Lib.hid (hp.on (ext_al w (.cells zero13a 51)))
  have HW := Lib.hid hw
  have HLT := Lib.hid hlt
  have HSP : Hid ((word (tl S) i).2 = blanks (tl S) i + 3) := Lib.hid (by have := word_sp (s := tl S) (i := i) (by rw [hw]; simp); rw [hw] at this; exact this)
  have hb := blanks_le' S hi
  have g1 : (blanks (tl S) i : Int) ≤ 100000 := by omega
  have HSU := Lib.hid hsub
  have HEN : Enters Tryz.prog 55 := enters_of Tryz.func55 (by kernel_rfl) rfl
  unfold Enters at HEN
  have HWC := fun w h => Lib.hid (wordT S i pb 0 0 w h hi hS)
  rw [hw] at HWC
  have HMA := fun w h => Lib.hid (markT_no S ⟨#[91]⟩ i pb 0 0 w h hi hS (.inr h1))
  have HMB1 := fun w h => Lib.hid (markT_no S ⟨#[123]⟩ i pb 0 0 w h hi hS (.inr h2))
  have HAC := fun w h => Lib.hid (aheadT S i pb 0 0 w h hi hS)
  have hle := word_le2 (S := S) (i := i) hi
  rw [HSP.out] at ha hle
  have HND := fun w h => Lib.hid (needT S ⟨#[40]⟩ (blanks (tl S) i + 3) a pb 0 w h hle hS (by decide) (by decide) ha (.inl (by decide)))
  clear ha hle
  clear hp hw hsub h1 h2 hlt
  generalize blanks (tl S) i = b at *
  go_enter Tryz.func30, Tryz.ntmps30
  go_upto_region 2 with (go_at_call 26; refine (HWC _ HPA.out).out.mono ?_; rintro e wA ⟨rfl, hw⟩; obtain rfl := hw)
  obtain ⟨wA, hwA⟩ : ∃ wA, w.alloc (.cells zero13a 51) = wA := ⟨_, rfl⟩
  rw [show w.alloc (.cells zero13a 51) = wA from hwA] at HM HPA ⊢
  clear hwA
  go_upto_region 3 with (first
    | (refine wpList_makeMap rfl rfl ?_; intro wm HMB HXM)
    | (refine wpList_insertS rfl rfl _ _ _ rfl Tryz.underlying123 Tryz.underlying9 HMB (by simp [tl]) _ (by decide) _ rfl rfl rfl (by rfl) ?_; intro wm HMB0 HKM; replace HMB := HMB0; replace HXM := Lib.hid (Keeps.below HXM.out HKM.out fun k hk e => by omega); clear HMB0 HKM)
    | (refine wpList_look rfl _ _ false rfl Tryz.underlying123 Tryz.underlying9 HMB (by simp [tl]) (zeroRead _) [105, 110, 116] (by decide) rfl rfl (some (.func (.func 55) #[] #[])) (by rfl) ?_))
  replace HPA := Lib.hid (HPA.out.on HXM.out)
  replace HM := Lib.hid (HM.out.on HXM.out)
  have hc := HPA.out.cell
  have hfz := HPA.out.frozen
  clear HMB HXM
  have HspanIL : ∀ W : World, (binOp .eql 122 (.func (.func 55) #[] #[]) .nilFunc).run Tryz.prog W = .ok (.bool false) W := fun W => by kernel_rfl
  go_upto_region 13 with (first
    | (go_at_call 52; first | ((with_reducible refine (HMA _ HPA.out).out.mono ?_); rintro e wm ⟨rfl, hw⟩; obtain rfl := hw) | ((with_reducible refine (HMB1 _ HPA.out).out.mono ?_); rintro e wm ⟨rfl, hw⟩; obtain rfl := hw))
    | (go_at_call 14; refine (HAC _ HPA.out).out.mono ?_; rintro e wm ⟨rfl, hw⟩; obtain rfl := hw))
  replace HM := Lib.hid (HM.out.keep (Keeps.set wm ⟨pb, 1, none⟩ (.int .i64 ((b : Int) + 3))))
  replace HPA := Lib.hid (PA.set' HPA.out (x := (b : Int) + 3) (j := b + 3) (by omega))
  obtain ⟨wS, hwS⟩ : ∃ wS, wm.setCell ⟨pb, 1, none⟩ (.int .i64 ((b : Int) + 3)) = wS := ⟨_, rfl⟩
  rw [hwS] at HPA HM ⊢
  clear hwS hc hfz
  go_wp2_with (first
    | (go_at_call 29; refine (HND _ HPA.out).out.mono ?_; rintro e wN ⟨rfl, hm⟩; replace HPA := Lib.hid hm.at_; replace HM := Lib.hid (HM.out.keep hm.keeps); clear hm)
    | (go_at_call 55; refine (HSU.out pb _ HPA.out).mono ?_; rintro e w5 ⟨⟨⟨cs, rfl, hr⟩, hk⟩, hpa⟩; have HA := Lib.hid hr; have HQ := fr_ltK HM; replace HM := Lib.hid (HM.out.keep hk); have HPZ := Lib.hid hpa)
    | (refine wpList_answerK (kT t) rfl 51 _ _ rfl rfl HM rfl info13p HA HQ rfl rfl ?_; intro w9 HG HK))
  exact GivenK.fin HG Tryz.results30 rfl _ Tryz.underlying51 rfl info13p rfl fun h => hR.out _ _ ⟨h, Blk.keeps HPZ.out HK.out (by have := HLT.out; omega)⟩
set_option maxHeartbeats 4000000 in
theorem term_where (S : ByteArray) (i a j : Nat) (t : T) (hi : i ≤ S.size) (hS : S.size ≤ 100000) (hw : (word (tl S) i).1 = [119, 104, 101, 114, 101]) (h1 : mark (tl S) i [91] = none) (h2 : mark (tl S) i [123] = none)
    (ha : mark (tl S) (word (tl S) i).2 [40] = some a)
    (hsub : ∀ (pb : Nat) (w : World), PA 66 w pb S a 0 0 → Calls Tryz.prog 59 #[.pointer (some ⟨pb, 0, none⟩)] w (GTerm pb S j t w)) : TermOK S i t j := by
  intro pb w hp
  refine of_post fun R hR => ?_
  have hlt := hp.lt
  have HM := Lib.hid (madeK (S := fun b => b = pb) w zero13a 51 (by rintro b rfl; exact hlt))
  have HPA := Lib.hid (hp.on (ext_al w (.cells zero13a 51)))
  have HW := Lib.hid hw
  have HLT := Lib.hid hlt
  have HSP : Hid ((word (tl S) i).2 = blanks (tl S) i + 5) := Lib.hid (by have := word_sp (s := tl S) (i := i) (by rw [hw]; simp); rw [hw] at this; exact this)
  have hb := blanks_le' S hi
  have g1 : (blanks (tl S) i : Int) ≤ 100000 := by omega
  have HSU := Lib.hid hsub
  have HEN : Enters Tryz.prog 59 := enters_of Tryz.func59 (by kernel_rfl) rfl
  unfold Enters at HEN
  have HWC := fun w h => Lib.hid (wordT S i pb 0 0 w h hi hS)
  rw [hw] at HWC
  have HMA := fun w h => Lib.hid (markT_no S ⟨#[91]⟩ i pb 0 0 w h hi hS (.inr h1))
  have HMB1 := fun w h => Lib.hid (markT_no S ⟨#[123]⟩ i pb 0 0 w h hi hS (.inr h2))
  have HAC := fun w h => Lib.hid (aheadT S i pb 0 0 w h hi hS)
  have hle := word_le2 (S := S) (i := i) hi
  rw [HSP.out] at ha hle
  have HND := fun w h => Lib.hid (needT S ⟨#[40]⟩ (blanks (tl S) i + 5) a pb 0 w h hle hS (by decide) (by decide) ha (.inl (by decide)))
  clear ha hle
  clear hp hw hsub h1 h2 hlt
  generalize blanks (tl S) i = b at *
  go_enter Tryz.func30, Tryz.ntmps30
  go_upto_region 2 with (go_at_call 26; refine (HWC _ HPA.out).out.mono ?_; rintro e wA ⟨rfl, hw⟩; obtain rfl := hw)
  obtain ⟨wA, hwA⟩ : ∃ wA, w.alloc (.cells zero13a 51) = wA := ⟨_, rfl⟩
  rw [show w.alloc (.cells zero13a 51) = wA from hwA] at HM HPA ⊢
  clear hwA
  go_upto_region 3 with (first
    | (refine wpList_makeMap rfl rfl ?_; intro wm HMB HXM)
    | (refine wpList_insertS rfl rfl _ _ _ rfl Tryz.underlying123 Tryz.underlying9 HMB (by simp [tl]) _ (by decide) _ rfl rfl rfl (by rfl) ?_; intro wm HMB0 HKM; replace HMB := HMB0; replace HXM := Lib.hid (Keeps.below HXM.out HKM.out fun k hk e => by omega); clear HMB0 HKM)
    | (refine wpList_look rfl _ _ false rfl Tryz.underlying123 Tryz.underlying9 HMB (by simp [tl]) (zeroRead _) [119, 104, 101, 114, 101] (by decide) rfl rfl (some (.func (.func 59) #[] #[])) (by rfl) ?_))
  replace HPA := Lib.hid (HPA.out.on HXM.out)
  replace HM := Lib.hid (HM.out.on HXM.out)
  have hc := HPA.out.cell
  have hfz := HPA.out.frozen
  clear HMB HXM
  have HwhereIL : ∀ W : World, (binOp .eql 122 (.func (.func 59) #[] #[]) .nilFunc).run Tryz.prog W = .ok (.bool false) W := fun W => by kernel_rfl
  go_upto_region 13 with (first
    | (go_at_call 52; first | ((with_reducible refine (HMA _ HPA.out).out.mono ?_); rintro e wm ⟨rfl, hw⟩; obtain rfl := hw) | ((with_reducible refine (HMB1 _ HPA.out).out.mono ?_); rintro e wm ⟨rfl, hw⟩; obtain rfl := hw))
    | (go_at_call 14; refine (HAC _ HPA.out).out.mono ?_; rintro e wm ⟨rfl, hw⟩; obtain rfl := hw))
  replace HM := Lib.hid (HM.out.keep (Keeps.set wm ⟨pb, 1, none⟩ (.int .i64 ((b : Int) + 5))))
  replace HPA := Lib.hid (PA.set' HPA.out (x := (b : Int) + 5) (j := b + 5) (by omega))
  obtain ⟨wS, hwS⟩ : ∃ wS, wm.setCell ⟨pb, 1, none⟩ (.int .i64 ((b : Int) + 5)) = wS := ⟨_, rfl⟩
  rw [hwS] at HPA HM ⊢
  clear hwS hc hfz
  go_wp2_with (first
    | (go_at_call 29; refine (HND _ HPA.out).out.mono ?_; rintro e wN ⟨rfl, hm⟩; replace HPA := Lib.hid hm.at_; replace HM := Lib.hid (HM.out.keep hm.keeps); clear hm)
    | (go_at_call 59; refine (HSU.out pb _ HPA.out).mono ?_; rintro e w5 ⟨⟨⟨cs, rfl, hr⟩, hk⟩, hpa⟩; have HA := Lib.hid hr; have HQ := fr_ltK HM; replace HM := Lib.hid (HM.out.keep hk); have HPZ := Lib.hid hpa)
    | (refine wpList_answerK (kT t) rfl 51 _ _ rfl rfl HM rfl info13p HA HQ rfl rfl ?_; intro w9 HG HK))
  exact GivenK.fin HG Tryz.results30 rfl _ Tryz.underlying51 rfl info13p rfl fun h => hR.out _ _ ⟨h, Blk.keeps HPZ.out HK.out (by have := HLT.out; omega)⟩
end Go.Proofs.YtnpaikdaogikcaaGreatDoor
