/- A block that is known whole: a struct that is stored into it, and read out of it at the end. -/
import Derived.Test.YtnpaikdaogikcaaGreatDoorG01
import Derived.Laws.Rows
import Derived.Laws.CopyRow
import Derived.Deep.RegionWith
import Derived.Deep.RegionHeld3
import Derived.OrdersHeld
import Derived.Deep.CutBlock
import Derived.Deep.DeepCutAuto

namespace Go.Proofs.YtnpaikdaogikcaaGreatDoor
set_option maxRecDepth 100000
open Go.RowKit
set_option linter.unusedVariables false
set_option linter.unusedSimpArgs false

/-- The block b holds these cells. -/
def Blk (w : World) (b : Nat) (cs : Array Value) (t : TypeId) : Prop := w.heap[b]? = some (.cells cs t (0, 0))
theorem Blk.lt {w : World} {b : Nat} {cs : Array Value} {t : TypeId} (h : Blk w b cs t) : b < w.heap.size := (Array.getElem?_eq_some_iff.1 h).1
theorem Blk.new (w : World) (cs : Array Value) (t : TypeId) : Blk (w.alloc (.cells cs t)) w.heap.size cs t := heap_alloc_new w _
theorem Blk.on {w w' : World} {b : Nat} {cs : Array Value} {t : TypeId} (h : Blk w b cs t) (hx : Ext w w') : Blk w' b cs t := (hx.block b h.lt).trans h
theorem Blk.keeps {w w' : World} {S : Nat → Prop} {b : Nat} {cs : Array Value} {t : TypeId} (h : Blk w b cs t) (hx : Keeps S w w') (hb : ¬ S b) : Blk w' b cs t := (hx.block b h.lt hb).trans h
theorem Blk.cell {w : World} {b : Nat} {cs : Array Value} {t : TypeId} (h : Blk w b cs t) (i : Nat) : w.cell? ⟨b, i, none⟩ = cs[i]? := by
  rw [cell_of_row w b i cs t (0, 0) h]
theorem Blk.frozen {w : World} {b : Nat} {cs : Array Value} {t : TypeId} (h : Blk w b cs t) (i : Nat) : w.frozen? ⟨b, i, none⟩ = false := by
  unfold Blk at h
  simp [World.frozen?, h]
theorem Blk.put {w : World} {b : Nat} {cs : Array Value} {t : TypeId} (h : Blk w b cs t) (ds : Array Value) : Blk (w.setRow b ds) b ds t := setRow_heap w b cs ds t _ h
theorem keeps_put (w : World) (b : Nat) (ds : Array Value) : Keeps (fun x => x = b) w (w.setRow b ds) :=
  ⟨rfl, rfl, rfl, by simp, fun k _ hk => setRow_other w b k ds hk⟩
/-- One cell of the block is stored. -/
theorem Blk.set {w : World} {b i : Nat} {cs : Array Value} {t : TypeId} (h : Blk w b cs t) (v : Value) : Blk (w.setCell ⟨b, i, none⟩ v) b (cs.setIfInBounds i v) t := by
  rw [setCell_eq_setRow w b i cs t _ v h]
  exact h.put _

section
variable {P : Program}
/-- A whole struct into a block that is known whole. -/
theorem wpList_store_blk {ops : Array Oper} {rest : List Oper} {o : Oper} {a : Act} {w : World} {Q : Exit → Act → World → Prop} (hgd : o.guard = none) (ty : TypeId) (x v : Operand) (ho : o.op = .store ty x v) (hd : o.dst = none)
    (b : Nat) (cur cs : Array Value) (t : TypeId) (hb : Blk w b cur t) (hx : a.eval x = .pointer (some ⟨b, 0, none⟩)) (hv : a.eval v = .agg cs) (hi : (P.info? ty).map (·.size) = some cs.size) (hcur : cur.size = cs.size)
    (h1 : ∀ u ∈ cs.toList, u.oneCell' = true) (h : ∀ w', Hid (Blk w' b cs t) → Hid (Keeps (fun x => x = b) w w') → wpList P ops Q rest a w') : wpList P ops Q (o :: rest) a w :=
  wpList_plain hgd fun K hK => by
    obtain ⟨i, hq, hs⟩ := Option.map_eq_some_iff.1 hi
    have hst := run_storeCells_at (P := P) b 0 t cs.toList 0 cur w hb (by simp [hcur]) h1
    have e : (cur.toList.take (0 + 0) ++ cs.toList ++ cur.toList.drop (0 + 0 + cs.toList.length)).toArray = cs := by
      have hd : List.drop cs.size cur.toList = [] := List.drop_of_length_le (by simp [hcur])
      simp [hd]
    rw [e] at hst
    unfold Oper.wp execOp
    have hc : (Value.agg cs).cells = cs := rfl
    have hsz : ∀ w' : World, (sizeOf ty).run P w' = .ok cs.size w' := fun w' => by simp [sizeOf, typeInfo, hq, hs]
    simp only [ho, hx, hv, Instr.storeAt, Instr.sureAddr, storeVar, Sem.run_bind, Sem.run_pure, Result.andThen_ok, hsz, hc, ne_eq, not_true_eq_false, if_false, hst]
    have := hK a _ (h _ (Lib.hid (hb.put cs)) (Lib.hid (keeps_put w b cs)))
    simpa [Oper.upon, hd, Act.put] using this
theorem results_cell {fn : Func} {x : Tmp} {ty : TypeId} (h : fn.results = #[.cell x ty]) {tmps : Array Value} {w : World} {b : Nat} {cs : Array Value} {t : TypeId} (hb : Blk w b cs t) (hv : tmps.getD x undef = .pointer (some ⟨b, 0, none⟩))
    (d : TypeDesc) (hu : P.underlying ty = some d) (hd : (match d with | .struct _ | .array _ _ => true | _ => false) = true) (hi : (P.info? ty).map (·.size) = some cs.size) : (results fn tmps).run P w = .ok (.agg cs) w := by
  have hl := run_loadVar_row (P := P) w b t ty cs (0, 0) d hb hu hd hi
  have hv' : tmps[x]?.getD undef = .pointer (some ⟨b, 0, none⟩) := by simpa using hv
  simp [results, h, hv', asAddr, hl]
theorem results_cell_1 {fn : Func} {x y : Tmp} {ty : TypeId} (h : fn.results = #[.cell x ty, .tmp y]) {tmps : Array Value} {w : World} {b : Nat} {cs : Array Value} {t : TypeId} (hb : Blk w b cs t) (hv : tmps.getD x undef = .pointer (some ⟨b, 0, none⟩))
    (d : TypeDesc) (hu : P.underlying ty = some d) (hd : (match d with | .struct _ | .array _ _ => true | _ => false) = true) (hi : (P.info? ty).map (·.size) = some cs.size) : (results fn tmps).run P w = .ok (.tuple #[.agg cs, tmps.getD y undef]) w := by
  have hl := run_loadVar_row (P := P) w b t ty cs (0, 0) d hb hu hd hi
  have hv' : tmps[x]?.getD undef = .pointer (some ⟨b, 0, none⟩) := by simpa using hv
  simp [results, h, hv', asAddr, hl]
theorem results_cell_2 {fn : Func} {x y z : Tmp} {ty : TypeId} (h : fn.results = #[.cell x ty, .tmp y, .tmp z]) {tmps : Array Value} {w : World} {b : Nat} {cs : Array Value} {t : TypeId} (hb : Blk w b cs t) (hv : tmps.getD x undef = .pointer (some ⟨b, 0, none⟩))
    (d : TypeDesc) (hu : P.underlying ty = some d) (hd : (match d with | .struct _ | .array _ _ => true | _ => false) = true) (hi : (P.info? ty).map (·.size) = some cs.size) : (results fn tmps).run P w = .ok (.tuple #[.agg cs, tmps.getD y undef, tmps.getD z undef]) w := by
  have hl := run_loadVar_row (P := P) w b t ty cs (0, 0) d hb hu hd hi
  have hv' : tmps[x]?.getD undef = .pointer (some ⟨b, 0, none⟩) := by simpa using hv
  simp [results, h, hv', asAddr, hl]
theorem results_1_cell {fn : Func} {x y : Tmp} {ty : TypeId} (h : fn.results = #[.tmp y, .cell x ty]) {tmps : Array Value} {w : World} {b : Nat} {cs : Array Value} {t : TypeId} (hb : Blk w b cs t) (hv : tmps.getD x undef = .pointer (some ⟨b, 0, none⟩))
    (d : TypeDesc) (hu : P.underlying ty = some d) (hd : (match d with | .struct _ | .array _ _ => true | _ => false) = true) (hi : (P.info? ty).map (·.size) = some cs.size) : (results fn tmps).run P w = .ok (.tuple #[tmps.getD y undef, .agg cs]) w := by
  have hl := run_loadVar_row (P := P) w b t ty cs (0, 0) d hb hu hd hi
  have hv' : tmps[x]?.getD undef = .pointer (some ⟨b, 0, none⟩) := by simpa using hv
  simp [results, h, hv', asAddr, hl]
end
end Go.Proofs.YtnpaikdaogikcaaGreatDoor

/- A script of numbers: the next one. -/
namespace Go.Proofs.YtnpaikdaogikcaaGreatDoor
set_option maxRecDepth 100000
open Go.RowKit
set_option linter.unusedVariables false
set_option linter.unusedSimpArgs false

/-- A script: how many numbers were told, the numbers. -/
structure Src (w : World) (sb u : Nat) (l : List Int) : Prop where
  ex : ∃ A c, Blk w sb #[.int .i64 u, .slice A l.length c] 63 ∧ CellsAt w A (l.map I64) ∧ ∀ b o, A = some ⟨b, o, none⟩ → b < sb
theorem Src.on {w w' : World} {sb u : Nat} {l : List Int} (h : Src w sb u l) (hx : Ext w w') : Src w' sb u l := by
  obtain ⟨A, c, h1, h2, h3⟩ := h.ex
  exact ⟨A, c, h1.on hx, h2.ext hx, h3⟩
theorem Src.lt {w : World} {sb u : Nat} {l : List Int} (h : Src w sb u l) : sb < w.heap.size := by
  obtain ⟨A, c, h1, _⟩ := h.ex
  exact h1.lt
theorem Src.keeps {S : Nat → Prop} {w w' : World} {sb u : Nat} {l : List Int} (h : Src w sb u l) (hk : Keeps S w w') (hs : ∀ b, b ≤ sb → ¬ S b) : Src w' sb u l := by
  obtain ⟨A, c, h1, h2, h3⟩ := h.ex
  refine ⟨A, c, h1.keeps hk (hs _ (Nat.le_refl _)), fun hn => ?_, h3⟩
  obtain ⟨b, o, e, hc⟩ := h2 hn
  exact ⟨b, o, e, fun k v hv => hk.cell (hs _ (Nat.le_of_lt (h3 b o e))) (hc k v hv)⟩
theorem asked_yes (sb u : Nat) (v : Value) (bound : Int) (w : World) (hb : Blk w sb #[.int .i64 u, v] 63) (h1 : 1 ≤ bound) (h2 : bound ≤ 100000) (hu : u ≤ 100000) :
    Calls Tryz.prog 321 #[.pointer (some ⟨sb, 0, none⟩), .int .i64 bound] w fun e w' => e = .returned (.bool true) ∧ w' = w.setCell ⟨sb, 0, none⟩ (.int .i64 (u + 1)) := by
  refine of_post fun R hR => ?_
  have hc := hb.cell
  have hf := hb.frozen
  have g1 : ¬ bound < 1 := by omega
  have g2 : ¬ (4294967296 : Int) < bound := by omega
  have g3 : (u : Int) ≤ 100000 := by omega
  clear hb h1 h2 hu
  go_enter Tryz.func321, Tryz.ntmps321
  go_wp2_with fail
  exact hR.out _ _ ⟨rfl, rfl⟩
set_option maxHeartbeats 2000000 in
theorem nextS (sb u : Nat) (l : List Int) (bound : Int) (w : World) (h : Src w sb u l) (hu : u < l.length) (hl : l.length ≤ 10000) (h0 : 0 ≤ l[u]) (hlt : l[u] < bound) (hb : bound ≤ 100000) :
    Calls Tryz.prog 319 #[.pointer (some ⟨sb, 0, none⟩), .int .i64 bound] w fun e w' => e = .returned (.int .i64 l[u]) ∧ Keeps (fun b => b = sb) w w' ∧ Src w' sb (u + 1) l := by
  refine of_post fun R hR => ?_
  obtain ⟨A, c, hblk, hcs, hne⟩ := h.ex
  obtain ⟨b, o, rfl, hcell⟩ := hcs (by intro e; rw [List.map_eq_nil_iff] at e; rw [e] at hu; simp at hu)
  have hci := hcell u (.int .i64 l[u]) (by rw [List.getElem?_map, List.getElem?_eq_getElem hu]; rfl)
  have hbl : b < sb := hne b o rfl
  have hbs : b ≠ sb := by omega
  have HBL := Lib.hid hbl
  clear hbl
  have HAS := Lib.hid (fun W hW => asked_yes sb u (.slice (some ⟨b, o, none⟩) l.length c) bound W hW (by omega) hb (by omega))
  have HBD : Hid (Blk w.drew sb #[.int .i64 u, .slice (some ⟨b, o, none⟩) l.length c] 63) := Lib.hid (hblk.on ((Ext.refl' w).drewN' 1))
  have HB1 : Hid (Blk (w.drew.setCell ⟨sb, 0, none⟩ (.int .i64 ((u : Int) + 1))) sb #[.int .i64 ((u : Int) + 1), .slice (some ⟨b, o, none⟩) l.length c] 63) := Lib.hid (HBD.out.set (i := 0) _)
  have HK1 : Hid (Keeps (fun b => b = sb) w (w.drew.setCell ⟨sb, 0, none⟩ (.int .i64 ((u : Int) + 1)))) := Lib.hid ((Keeps.of_ext ((Ext.refl' w).drewN' 1)).trans (Keeps.set _ ⟨sb, 0, none⟩ _))
  have hci1 := HK1.out.cell hbs hci
  have hc1 := HB1.out.cell
  have HCS := Lib.hid hcs
  generalize l[u] = x at *
  generalize hn : l.length = n at *
  have HNL := Lib.hid hn
  clear hn
  have hmod : Int.tmod x bound = x := Int.tmod_eq_of_lt h0 hlt
  have g1 : (u : Int) + 1 ≤ n := by omega
  have g2 : (u : Int) + 1 - 1 = u := by omega
  have hwr : IntKind.i64.wrap (u : Int) = u := by rw [IntKind.wrap_i64]; omega
  have g4 : (u : Int) < n := by omega
  have g5 : (0 : Int) ≤ u := by omega
  have g3 : ¬ bound = 0 := by omega
  have g6 : ¬ x < 0 := by omega
  generalize hw1 : w.drew.setCell ⟨sb, 0, none⟩ (.int .i64 ((u : Int) + 1)) = w1 at *
  have HW1 := Lib.hid hw1
  clear hw1 hcell hci h hcs hne hblk hlt h0 hl hb
  go_enter Tryz.func319, Tryz.ntmps319
  have hs1 : w1.cell? ⟨sb, 1, none⟩ = some (.slice (some ⟨b, o, none⟩) n c) := hc1 1
  have hs0 : w.drew.cell? ⟨sb, 1, none⟩ = some (.slice (some ⟨b, o, none⟩) n c) := HBD.out.cell 1
  have hs10 : w1.cell? ⟨sb, 0, none⟩ = some (.int .i64 ((u : Int) + 1)) := hc1 0
  clear hc1
  go_upto_region 1 with fail
  refine wp_region_any (by kernel_rfl) ?_
  change wpAny _ _ _ _ _ _ _ (World.drew _)
  refine wpAny_take (i := 0) (oi := ?o0) (v := ?v0) ?h0 (by kernel_rfl) (by kernel_rfl) (by kernel_rfl) ?k0 (Or.inl ⟨?q0, ?y0⟩) ?r0
  case h0 => simp only [List.getElem?_toArray, List.getElem?_cons_succ, List.getElem?_cons_zero]; rfl
  case k0 => exact fun _ _ _ h => h
  case q0 => rfl
  case y0 => intro w; go_simp; try with_reducible rfl
  simp only [Act.put, List.setIfInBounds_toArray, List.set_cons_zero, List.set_cons_succ]
  refine wpAny_take (i := 1) (oi := ?o1) (v := ?v1) ?h1 (by kernel_rfl) (by kernel_rfl) (by kernel_rfl) ?k1 (Or.inl ⟨?q1, ?y1⟩) ?r1
  case h1 => simp only [List.getElem?_toArray, List.getElem?_cons_succ, List.getElem?_cons_zero]; rfl
  case k1 => exact fun _ _ _ h => h
  case q1 => rfl
  case y1 => intro w; go_simp; try with_reducible rfl
  simp only [Act.put, List.setIfInBounds_toArray, List.set_cons_zero, List.set_cons_succ]
  refine wpAny_take (i := 2) (oi := ?o2) (v := ?v2) ?h2 (by kernel_rfl) (by kernel_rfl) (by kernel_rfl) ?k2 (Or.inl ⟨?q2, ?y2⟩) ?r2
  case h2 => simp only [List.getElem?_toArray, List.getElem?_cons_succ, List.getElem?_cons_zero]; rfl
  case k2 => exact fun _ _ _ h => h
  case q2 => rfl
  case y2 => intro w; go_simp; try with_reducible rfl
  simp only [Act.put, List.setIfInBounds_toArray, List.set_cons_zero, List.set_cons_succ]
  refine wpAny_take (i := 3) (oi := ?o3) (v := ?v3) ?h3 (by kernel_rfl) (by kernel_rfl) (by kernel_rfl) ?k3 (Or.inl ⟨?q3, ?y3⟩) ?r3
  case h3 => simp only [List.getElem?_toArray, List.getElem?_cons_succ, List.getElem?_cons_zero]; rfl
  case k3 => exact fun _ _ _ h => h
  case q3 => rfl
  case y3 => intro w; go_simp; try with_reducible rfl
  simp only [Act.put, List.setIfInBounds_toArray, List.set_cons_zero, List.set_cons_succ]
  refine wpAny_ready (rs := [4]) (by kernel_rfl) (by simp) ?_
  refine AllReady.cons rfl (fun K hK => ?_) AllReady.nil
  have HKK := Lib.hid hK
  clear hK
  go_simp
  refine (HAS.out _ HBD.out).mono ?_
  rintro e w1 ⟨rfl, hw⟩
  rw [HW1.out] at hw
  obtain rfl := hw
  show K _ _
  refine HKK.out _ _ ?_
  have HS1 : w1.cell? ⟨sb, 1, none⟩ = some (.slice (some ⟨b, o, none⟩) n c) ∧ w1.cell? ⟨sb, 0, none⟩ = some (.int .i64 ((u : Int) + 1)) := ⟨hs1, hs10⟩
  refine wpAny_of_held (S := fun X => X.cell? ⟨sb, 1, none⟩ = some (.slice (some ⟨b, o, none⟩) n c) ∧ X.cell? ⟨sb, 0, none⟩ = some (.int .i64 ((u : Int) + 1))) _ _ _ _ ?_
  refine wpAnyH_take (i := 5) (oi := ?o5) (v := ?v5) ?h5 (by kernel_rfl) (by kernel_rfl) (by kernel_rfl) ?k5 (Or.inl ⟨?q5, ?y5⟩) HS1 ?r5
  case h5 => simp only [List.getElem?_toArray, List.getElem?_cons_succ, List.getElem?_cons_zero]; rfl
  case k5 => exact fun _ _ _ h => h
  case q5 => rfl
  case y5 => intro w hSw; obtain ⟨hSw1, hSw2⟩ := hSw; go_simp; try with_reducible rfl
  simp only [Act.put, List.setIfInBounds_toArray, List.set_cons_zero, List.set_cons_succ]
  refine wpAnyH_take (i := 6) (oi := ?o6) (v := ?v6) ?h6 (by kernel_rfl) (by kernel_rfl) (by kernel_rfl) ?k6 (Or.inl ⟨?q6, ?y6⟩) HS1 ?r6
  case h6 => simp only [List.getElem?_toArray, List.getElem?_cons_succ, List.getElem?_cons_zero]; rfl
  case k6 => exact fun _ _ _ h => h
  case q6 => rfl
  case y6 => intro w hSw; obtain ⟨hSw1, hSw2⟩ := hSw; go_simp; try with_reducible rfl
  simp only [Act.put, List.setIfInBounds_toArray, List.set_cons_zero, List.set_cons_succ]
  refine wpAnyH_take (i := 7) (oi := ?o7) (v := ?v7) ?h7 (by kernel_rfl) (by kernel_rfl) (by kernel_rfl) ?k7 (Or.inl ⟨?q7, ?y7⟩) HS1 ?r7
  case h7 => simp only [List.getElem?_toArray, List.getElem?_cons_succ, List.getElem?_cons_zero]; rfl
  case k7 => exact fun _ _ _ h => h
  case q7 => rfl
  case y7 => intro w hSw; obtain ⟨hSw1, hSw2⟩ := hSw; go_simp; try with_reducible rfl
  simp only [Act.put, List.setIfInBounds_toArray, List.set_cons_zero, List.set_cons_succ]
  refine wpAnyH_take (i := 8) (oi := ?o8) (v := ?v8) ?h8 (by kernel_rfl) (by kernel_rfl) (by kernel_rfl) ?k8 (Or.inl ⟨?q8, ?y8⟩) HS1 ?r8
  case h8 => simp only [List.getElem?_toArray, List.getElem?_cons_succ, List.getElem?_cons_zero]; rfl
  case k8 => exact fun _ _ _ h => h
  case q8 => rfl
  case y8 => intro w hSw; obtain ⟨hSw1, hSw2⟩ := hSw; go_simp; try with_reducible rfl
  simp only [Act.put, List.setIfInBounds_toArray, List.set_cons_zero, List.set_cons_succ]
  refine wpAnyH_take (i := 9) (oi := ?o9) (v := ?v9) ?h9 (by kernel_rfl) (by kernel_rfl) (by kernel_rfl) ?k9 (Or.inl ⟨?q9, ?y9⟩) HS1 ?r9
  case h9 => simp only [List.getElem?_toArray, List.getElem?_cons_succ, List.getElem?_cons_zero]; rfl
  case k9 => exact fun _ _ _ h => h
  case q9 => rfl
  case y9 => intro w hSw; obtain ⟨hSw1, hSw2⟩ := hSw; go_simp; try with_reducible rfl
  simp only [Act.put, List.setIfInBounds_toArray, List.set_cons_zero, List.set_cons_succ]
  refine wpAnyH_take (i := 10) (oi := ?o10) (v := ?v10) ?h10 (by kernel_rfl) (by kernel_rfl) (by kernel_rfl) ?k10 (Or.inl ⟨?q10, ?y10⟩) HS1 ?r10
  case h10 => simp only [List.getElem?_toArray, List.getElem?_cons_succ, List.getElem?_cons_zero]; rfl
  case k10 => exact fun _ _ _ h => h
  case q10 => rfl
  case y10 => intro w hSw; obtain ⟨hSw1, hSw2⟩ := hSw; go_simp; try with_reducible rfl
  simp only [Act.put, List.setIfInBounds_toArray, List.set_cons_zero, List.set_cons_succ]
  refine wpAnyH_take (i := 11) (oi := ?o11) (v := ?v11) ?h11 (by kernel_rfl) (by kernel_rfl) (by kernel_rfl) ?k11 (Or.inl ⟨?q11, ?y11⟩) HS1 ?r11
  case h11 => simp only [List.getElem?_toArray, List.getElem?_cons_succ, List.getElem?_cons_zero]; rfl
  case k11 => exact fun _ _ _ h => h
  case q11 => rfl
  case y11 => intro w hSw; obtain ⟨hSw1, hSw2⟩ := hSw; go_simp; try with_reducible rfl
  simp only [Act.put, List.setIfInBounds_toArray, List.set_cons_zero, List.set_cons_succ]
  refine wpAnyH_take (i := 12) (oi := ?o12) (v := ?v12) ?h12 (by kernel_rfl) (by kernel_rfl) (by kernel_rfl) ?k12 (Or.inl ⟨?q12, ?y12⟩) HS1 ?r12
  case h12 => simp only [List.getElem?_toArray, List.getElem?_cons_succ, List.getElem?_cons_zero]; rfl
  case k12 => exact fun _ _ _ h => h
  case q12 => rfl
  case y12 => intro w hSw; obtain ⟨hSw1, hSw2⟩ := hSw; go_simp; try with_reducible rfl
  simp only [Act.put, List.setIfInBounds_toArray, List.set_cons_zero, List.set_cons_succ]
  refine wpAnyH_take (i := 13) (oi := ?o13) (v := ?v13) ?h13 (by kernel_rfl) (by kernel_rfl) (by kernel_rfl) ?k13 (Or.inl ⟨?q13, ?y13⟩) HS1 ?r13
  case h13 => simp only [List.getElem?_toArray, List.getElem?_cons_succ, List.getElem?_cons_zero]; rfl
  case k13 => exact fun _ _ _ h => h
  case q13 => rfl
  case y13 => intro w hSw; obtain ⟨hSw1, hSw2⟩ := hSw; go_simp; try with_reducible rfl
  simp only [Act.put, List.setIfInBounds_toArray, List.set_cons_zero, List.set_cons_succ]
  refine wpAnyH_take (i := 14) (oi := ?o14) (v := ?v14) ?h14 (by kernel_rfl) (by kernel_rfl) (by kernel_rfl) ?k14 (Or.inl ⟨?q14, ?y14⟩) HS1 ?r14
  case h14 => simp only [List.getElem?_toArray, List.getElem?_cons_succ, List.getElem?_cons_zero]; rfl
  case k14 => exact fun _ _ _ h => h
  case q14 => rfl
  case y14 => intro w hSw; obtain ⟨hSw1, hSw2⟩ := hSw; go_simp; try with_reducible rfl
  simp only [Act.put, List.setIfInBounds_toArray, List.set_cons_zero, List.set_cons_succ]
  refine wpAnyH_take (i := 15) (oi := ?o15) (v := ?v15) ?h15 (by kernel_rfl) (by kernel_rfl) (by kernel_rfl) ?k15 (Or.inl ⟨?q15, ?y15⟩) HS1 ?r15
  case h15 => simp only [List.getElem?_toArray, List.getElem?_cons_succ, List.getElem?_cons_zero]; rfl
  case k15 => exact fun _ _ _ h => h
  case q15 => rfl
  case y15 => intro w hSw; obtain ⟨hSw1, hSw2⟩ := hSw; go_simp; try with_reducible rfl
  simp only [Act.put, List.setIfInBounds_toArray, List.set_cons_zero, List.set_cons_succ]
  refine wpAnyH_take (i := 16) (oi := ?o16) (v := ?v16) ?h16 (by kernel_rfl) (by kernel_rfl) (by kernel_rfl) ?k16 (Or.inl ⟨?q16, ?y16⟩) HS1 ?r16
  case h16 => simp only [List.getElem?_toArray, List.getElem?_cons_succ, List.getElem?_cons_zero]; rfl
  case k16 => exact fun _ _ _ h => h
  case q16 => rfl
  case y16 => intro w hSw; obtain ⟨hSw1, hSw2⟩ := hSw; go_simp; try with_reducible rfl
  simp only [Act.put, List.setIfInBounds_toArray, List.set_cons_zero, List.set_cons_succ]
  refine wpAnyH_take (i := 17) (oi := ?o17) (v := ?v17) ?h17 (by kernel_rfl) (by kernel_rfl) (by kernel_rfl) ?k17 (Or.inl ⟨?q17, ?y17⟩) HS1 ?r17
  case h17 => simp only [List.getElem?_toArray, List.getElem?_cons_succ, List.getElem?_cons_zero]; rfl
  case k17 => exact fun _ _ _ h => h
  case q17 => rfl
  case y17 => intro w hSw; obtain ⟨hSw1, hSw2⟩ := hSw; go_simp; try with_reducible rfl
  simp only [Act.put, List.setIfInBounds_toArray, List.set_cons_zero, List.set_cons_succ]
  refine wpAnyH_take (i := 18) (oi := ?o18) (v := ?v18) ?h18 (by kernel_rfl) (by kernel_rfl) (by kernel_rfl) ?k18 (Or.inl ⟨?q18, ?y18⟩) HS1 ?r18
  case h18 => simp only [List.getElem?_toArray, List.getElem?_cons_succ, List.getElem?_cons_zero]; rfl
  case k18 => exact fun _ _ _ h => h
  case q18 => rfl
  case y18 => intro w hSw; obtain ⟨hSw1, hSw2⟩ := hSw; go_simp; try with_reducible rfl
  simp only [Act.put, List.setIfInBounds_toArray, List.set_cons_zero, List.set_cons_succ]
  refine wpAnyH_done (by kernel_rfl) ?_ _
  all_goals
    go_wp2_with fail
    go_region
    all_goals
      go_wp2_with fail
      refine hR.out _ _ ⟨rfl, HK1.out.trans (Keeps.of_ext ((Ext.refl' _).drewN' 1)), ⟨some ⟨b, o, none⟩, c, ?_, ?_, ?_⟩⟩
      · have h1 := HB1.out.on ((Ext.refl' _).drewN' 1)
        rw [HNL.out]; exact h1
      · exact fun hne => by
          obtain ⟨b2, o2, e2, hc2⟩ := HCS.out hne
          cases e2
          exact ⟨b, o, rfl, fun k v hk => HK1.out.cell (by exact hbs) (hc2 k v hk)⟩
      · rintro b2 o2 e2; cases e2; exact HBL.out
end Go.Proofs.YtnpaikdaogikcaaGreatDoor

/- A script of numbers: one that is missing. -/
namespace Go.Proofs.YtnpaikdaogikcaaGreatDoor
set_option maxRecDepth 100000
open Go.RowKit
set_option linter.unusedVariables false
set_option linter.unusedSimpArgs false

set_option maxHeartbeats 2000000 in
theorem nextS0 (sb u : Nat) (l : List Int) (bound : Int) (w : World) (h : Src w sb u l) (hu : l.length ≤ u) (hl : u ≤ 10000) (h1 : 1 ≤ bound) (hb : bound ≤ 100000) :
    Calls Tryz.prog 319 #[.pointer (some ⟨sb, 0, none⟩), .int .i64 bound] w fun e w' => e = .returned (.int .i64 0) ∧ Keeps (fun b => b = sb) w w' ∧ Src w' sb (u + 1) l := by
  refine of_post fun R hR => ?_
  have HSC := Lib.hid h
  obtain ⟨A, c, hblk, hcs, hne⟩ := h.ex
  have HAS := Lib.hid (fun W hW => asked_yes sb u (.slice A l.length c) bound W hW (by omega) hb (by omega))
  have HBD : Hid (Blk w.drew sb #[.int .i64 u, .slice A l.length c] 63) := Lib.hid (hblk.on ((Ext.refl' w).drewN' 1))
  have HB1 : Hid (Blk (w.drew.setCell ⟨sb, 0, none⟩ (.int .i64 ((u : Int) + 1))) sb #[.int .i64 ((u : Int) + 1), .slice A l.length c] 63) := Lib.hid (HBD.out.set (i := 0) _)
  have HK1 : Hid (Keeps (fun b => b = sb) w (w.drew.setCell ⟨sb, 0, none⟩ (.int .i64 ((u : Int) + 1)))) := Lib.hid ((Keeps.of_ext ((Ext.refl' w).drewN' 1)).trans (Keeps.set _ ⟨sb, 0, none⟩ _))
  have hc1 := HB1.out.cell
  have HCS : Hid (CellsAt w A (l.map I64) ∧ ∀ b o, A = some ⟨b, o, none⟩ → b < sb) := Lib.hid ⟨hcs, hne⟩
  have HNL : Hid (l.length = l.length) := Lib.hid rfl
  generalize hn : l.length = n at *
  have g1 : ¬ (u : Int) + 1 ≤ n := by omega
  have g4 : (n : Int) < (u : Int) + 1 := by omega
  generalize hw1 : w.drew.setCell ⟨sb, 0, none⟩ (.int .i64 ((u : Int) + 1)) = w1 at *
  have HW1 := Lib.hid hw1
  have HLN := Lib.hid hn
  clear hw1 h hcs hne hblk hl hb HNL hn
  go_enter Tryz.func319, Tryz.ntmps319
  have hs1 : w1.cell? ⟨sb, 1, none⟩ = some (.slice A n c) := hc1 1
  have hs0 : w.drew.cell? ⟨sb, 1, none⟩ = some (.slice A n c) := HBD.out.cell 1
  have hs10 : w1.cell? ⟨sb, 0, none⟩ = some (.int .i64 ((u : Int) + 1)) := hc1 0
  clear hc1
  go_upto_region 1 with fail
  refine wp_region_any (by kernel_rfl) ?_
  change wpAny _ _ _ _ _ _ _ (World.drew _)
  refine wpAny_take (i := 0) (oi := ?o0) (v := ?v0) ?h0 (by kernel_rfl) (by kernel_rfl) (by kernel_rfl) ?k0 (Or.inl ⟨?q0, ?y0⟩) ?r0
  case h0 => simp only [List.getElem?_toArray, List.getElem?_cons_succ, List.getElem?_cons_zero]; rfl
  case k0 => exact fun _ _ _ h => h
  case q0 => rfl
  case y0 => intro w; go_simp; try with_reducible rfl
  simp only [Act.put, List.setIfInBounds_toArray, List.set_cons_zero, List.set_cons_succ]
  refine wpAny_take (i := 1) (oi := ?o1) (v := ?v1) ?h1 (by kernel_rfl) (by kernel_rfl) (by kernel_rfl) ?k1 (Or.inl ⟨?q1, ?y1⟩) ?r1
  case h1 => simp only [List.getElem?_toArray, List.getElem?_cons_succ, List.getElem?_cons_zero]; rfl
  case k1 => exact fun _ _ _ h => h
  case q1 => rfl
  case y1 => intro w; go_simp; try with_reducible rfl
  simp only [Act.put, List.setIfInBounds_toArray, List.set_cons_zero, List.set_cons_succ]
  refine wpAny_take (i := 2) (oi := ?o2) (v := ?v2) ?h2 (by kernel_rfl) (by kernel_rfl) (by kernel_rfl) ?k2 (Or.inl ⟨?q2, ?y2⟩) ?r2
  case h2 => simp only [List.getElem?_toArray, List.getElem?_cons_succ, List.getElem?_cons_zero]; rfl
  case k2 => exact fun _ _ _ h => h
  case q2 => rfl
  case y2 => intro w; go_simp; try with_reducible rfl
  simp only [Act.put, List.setIfInBounds_toArray, List.set_cons_zero, List.set_cons_succ]
  refine wpAny_take (i := 3) (oi := ?o3) (v := ?v3) ?h3 (by kernel_rfl) (by kernel_rfl) (by kernel_rfl) ?k3 (Or.inl ⟨?q3, ?y3⟩) ?r3
  case h3 => simp only [List.getElem?_toArray, List.getElem?_cons_succ, List.getElem?_cons_zero]; rfl
  case k3 => exact fun _ _ _ h => h
  case q3 => rfl
  case y3 => intro w; go_simp; try with_reducible rfl
  simp only [Act.put, List.setIfInBounds_toArray, List.set_cons_zero, List.set_cons_succ]
  refine wpAny_ready (rs := [4]) (by kernel_rfl) (by simp) ?_
  refine AllReady.cons rfl (fun K hK => ?_) AllReady.nil
  have HKK := Lib.hid hK
  clear hK
  go_simp
  refine (HAS.out _ HBD.out).mono ?_
  rintro e w1 ⟨rfl, hw⟩
  rw [HW1.out] at hw
  obtain rfl := hw
  show K _ _
  refine HKK.out _ _ ?_
  have HS1 : w1.cell? ⟨sb, 1, none⟩ = some (.slice A n c) ∧ w1.cell? ⟨sb, 0, none⟩ = some (.int .i64 ((u : Int) + 1)) := ⟨hs1, hs10⟩
  refine wpAny_of_held (S := fun X => X.cell? ⟨sb, 1, none⟩ = some (.slice A n c) ∧ X.cell? ⟨sb, 0, none⟩ = some (.int .i64 ((u : Int) + 1))) _ _ _ _ ?_
  refine wpAnyH_take (i := 5) (oi := ?o5) (v := ?v5) ?h5 (by kernel_rfl) (by kernel_rfl) (by kernel_rfl) ?k5 (Or.inl ⟨?q5, ?y5⟩) HS1 ?r5
  case h5 => simp only [List.getElem?_toArray, List.getElem?_cons_succ, List.getElem?_cons_zero]; rfl
  case k5 => exact fun _ _ _ h => h
  case q5 => rfl
  case y5 => intro w hSw; obtain ⟨hSw1, hSw2⟩ := hSw; go_simp; try with_reducible rfl
  simp only [Act.put, List.setIfInBounds_toArray, List.set_cons_zero, List.set_cons_succ]
  refine wpAnyH_take (i := 6) (oi := ?o6) (v := ?v6) ?h6 (by kernel_rfl) (by kernel_rfl) (by kernel_rfl) ?k6 (Or.inl ⟨?q6, ?y6⟩) HS1 ?r6
  case h6 => simp only [List.getElem?_toArray, List.getElem?_cons_succ, List.getElem?_cons_zero]; rfl
  case k6 => exact fun _ _ _ h => h
  case q6 => rfl
  case y6 => intro w hSw; obtain ⟨hSw1, hSw2⟩ := hSw; go_simp; try with_reducible rfl
  simp only [Act.put, List.setIfInBounds_toArray, List.set_cons_zero, List.set_cons_succ]
  refine wpAnyH_take (i := 7) (oi := ?o7) (v := ?v7) ?h7 (by kernel_rfl) (by kernel_rfl) (by kernel_rfl) ?k7 (Or.inl ⟨?q7, ?y7⟩) HS1 ?r7
  case h7 => simp only [List.getElem?_toArray, List.getElem?_cons_succ, List.getElem?_cons_zero]; rfl
  case k7 => exact fun _ _ _ h => h
  case q7 => rfl
  case y7 => intro w hSw; obtain ⟨hSw1, hSw2⟩ := hSw; go_simp; try with_reducible rfl
  simp only [Act.put, List.setIfInBounds_toArray, List.set_cons_zero, List.set_cons_succ]
  refine wpAnyH_take (i := 8) (oi := ?o8) (v := ?v8) ?h8 (by kernel_rfl) (by kernel_rfl) (by kernel_rfl) ?k8 (Or.inl ⟨?q8, ?y8⟩) HS1 ?r8
  case h8 => simp only [List.getElem?_toArray, List.getElem?_cons_succ, List.getElem?_cons_zero]; rfl
  case k8 => exact fun _ _ _ h => h
  case q8 => rfl
  case y8 => intro w hSw; obtain ⟨hSw1, hSw2⟩ := hSw; go_simp; try with_reducible rfl
  simp only [Act.put, List.setIfInBounds_toArray, List.set_cons_zero, List.set_cons_succ]
  refine wpAnyH_take (i := 9) (oi := ?o9) (v := ?v9) ?h9 (by kernel_rfl) (by kernel_rfl) (by kernel_rfl) ?k9 (Or.inl ⟨?q9, ?y9⟩) HS1 ?r9
  case h9 => simp only [List.getElem?_toArray, List.getElem?_cons_succ, List.getElem?_cons_zero]; rfl
  case k9 => exact fun _ _ _ h => h
  case q9 => rfl
  case y9 => intro w hSw; obtain ⟨hSw1, hSw2⟩ := hSw; go_simp; try with_reducible rfl
  simp only [Act.put, List.setIfInBounds_toArray, List.set_cons_zero, List.set_cons_succ]
  refine wpAnyH_take (i := 10) (oi := ?o10) (v := ?v10) ?h10 (by kernel_rfl) (by kernel_rfl) (by kernel_rfl) ?k10 (Or.inl ⟨?q10, ?y10⟩) HS1 ?r10
  case h10 => simp only [List.getElem?_toArray, List.getElem?_cons_succ, List.getElem?_cons_zero]; rfl
  case k10 => exact fun _ _ _ h => h
  case q10 => rfl
  case y10 => intro w hSw; obtain ⟨hSw1, hSw2⟩ := hSw; go_simp; try with_reducible rfl
  simp only [Act.put, List.setIfInBounds_toArray, List.set_cons_zero, List.set_cons_succ]
  refine wpAnyH_take (i := 11) (oi := ?o11) (v := ?v11) ?h11 (by kernel_rfl) (by kernel_rfl) (by kernel_rfl) ?k11 (Or.inl ⟨?q11, ?y11⟩) HS1 ?r11
  case h11 => simp only [List.getElem?_toArray, List.getElem?_cons_succ, List.getElem?_cons_zero]; rfl
  case k11 => exact fun _ _ _ h => h
  case q11 => rfl
  case y11 => intro w hSw; obtain ⟨hSw1, hSw2⟩ := hSw; go_simp; try with_reducible rfl
  simp only [Act.put, List.setIfInBounds_toArray, List.set_cons_zero, List.set_cons_succ]
  refine wpAnyH_take (i := 12) (oi := ?o12) (v := ?v12) ?h12 (by kernel_rfl) (by kernel_rfl) (by kernel_rfl) ?k12 (Or.inl ⟨?q12, ?y12⟩) HS1 ?r12
  case h12 => simp only [List.getElem?_toArray, List.getElem?_cons_succ, List.getElem?_cons_zero]; rfl
  case k12 => exact fun _ _ _ h => h
  case q12 => rfl
  case y12 => intro w hSw; obtain ⟨hSw1, hSw2⟩ := hSw; go_simp; try with_reducible rfl
  simp only [Act.put, List.setIfInBounds_toArray, List.set_cons_zero, List.set_cons_succ]
  refine wpAnyH_take (i := 13) (oi := ?o13) (v := ?v13) ?h13 (by kernel_rfl) (by kernel_rfl) (by kernel_rfl) ?k13 (Or.inl ⟨?q13, ?y13⟩) HS1 ?r13
  case h13 => simp only [List.getElem?_toArray, List.getElem?_cons_succ, List.getElem?_cons_zero]; rfl
  case k13 => exact fun _ _ _ h => h
  case q13 => rfl
  case y13 => intro w hSw; obtain ⟨hSw1, hSw2⟩ := hSw; go_simp; try with_reducible rfl
  simp only [Act.put, List.setIfInBounds_toArray, List.set_cons_zero, List.set_cons_succ]
  refine wpAnyH_take (i := 14) (oi := ?o14) (v := ?v14) ?h14 (by kernel_rfl) (by kernel_rfl) (by kernel_rfl) ?k14 (Or.inl ⟨?q14, ?y14⟩) HS1 ?r14
  case h14 => simp only [List.getElem?_toArray, List.getElem?_cons_succ, List.getElem?_cons_zero]; rfl
  case k14 => exact fun _ _ _ h => h
  case q14 => rfl
  case y14 => intro w hSw; obtain ⟨hSw1, hSw2⟩ := hSw; go_simp; try with_reducible rfl
  simp only [Act.put, List.setIfInBounds_toArray, List.set_cons_zero, List.set_cons_succ]
  refine wpAnyH_take (i := 15) (oi := ?o15) (v := ?v15) ?h15 (by kernel_rfl) (by kernel_rfl) (by kernel_rfl) ?k15 (Or.inl ⟨?q15, ?y15⟩) HS1 ?r15
  case h15 => simp only [List.getElem?_toArray, List.getElem?_cons_succ, List.getElem?_cons_zero]; rfl
  case k15 => exact fun _ _ _ h => h
  case q15 => rfl
  case y15 => intro w hSw; obtain ⟨hSw1, hSw2⟩ := hSw; go_simp; try with_reducible rfl
  simp only [Act.put, List.setIfInBounds_toArray, List.set_cons_zero, List.set_cons_succ]
  refine wpAnyH_take (i := 16) (oi := ?o16) (v := ?v16) ?h16 (by kernel_rfl) (by kernel_rfl) (by kernel_rfl) ?k16 (Or.inl ⟨?q16, ?y16⟩) HS1 ?r16
  case h16 => simp only [List.getElem?_toArray, List.getElem?_cons_succ, List.getElem?_cons_zero]; rfl
  case k16 => exact fun _ _ _ h => h
  case q16 => rfl
  case y16 => intro w hSw; obtain ⟨hSw1, hSw2⟩ := hSw; go_simp; try with_reducible rfl
  simp only [Act.put, List.setIfInBounds_toArray, List.set_cons_zero, List.set_cons_succ]
  refine wpAnyH_take (i := 17) (oi := ?o17) (v := ?v17) ?h17 (by kernel_rfl) (by kernel_rfl) (by kernel_rfl) ?k17 (Or.inl ⟨?q17, ?y17⟩) HS1 ?r17
  case h17 => simp only [List.getElem?_toArray, List.getElem?_cons_succ, List.getElem?_cons_zero]; rfl
  case k17 => exact fun _ _ _ h => h
  case q17 => rfl
  case y17 => intro w hSw; obtain ⟨hSw1, hSw2⟩ := hSw; go_simp; try with_reducible rfl
  simp only [Act.put, List.setIfInBounds_toArray, List.set_cons_zero, List.set_cons_succ]
  refine wpAnyH_take (i := 18) (oi := ?o18) (v := ?v18) ?h18 (by kernel_rfl) (by kernel_rfl) (by kernel_rfl) ?k18 (Or.inl ⟨?q18, ?y18⟩) HS1 ?r18
  case h18 => simp only [List.getElem?_toArray, List.getElem?_cons_succ, List.getElem?_cons_zero]; rfl
  case k18 => exact fun _ _ _ h => h
  case q18 => rfl
  case y18 => intro w hSw; obtain ⟨hSw1, hSw2⟩ := hSw; go_simp; try with_reducible rfl
  simp only [Act.put, List.setIfInBounds_toArray, List.set_cons_zero, List.set_cons_succ]
  refine wpAnyH_done (by kernel_rfl) ?_ _
  all_goals
    go_wp2_with fail
    refine hR.out _ _ ⟨rfl, HK1.out, ⟨A, c, ?_, ?_, HCS.out.2⟩⟩
    · have h1 := HB1.out
      rw [HLN.out]; exact h1
    · exact fun hne => by
        obtain ⟨b2, o2, e2, hc2⟩ := HCS.out.1 hne
        exact ⟨b2, o2, e2, fun k v hk => HK1.out.cell (by have := HCS.out.2 b2 o2 e2; show ¬ b2 = sb; omega) (hc2 k v hk)⟩
end Go.Proofs.YtnpaikdaogikcaaGreatDoor
