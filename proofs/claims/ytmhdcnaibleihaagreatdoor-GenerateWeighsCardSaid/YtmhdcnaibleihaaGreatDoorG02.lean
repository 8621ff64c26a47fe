/- A block that is known whole: a struct that is stored into it, and read out of it at the end. -/
import Derived.Test.YtmhdcnaibleihaaGreatDoorG01
import Derived.Laws.Rows
import Derived.Laws.CopyRow
import Derived.Deep.RegionWith
import Derived.Deep.RegionHeld3
import Derived.OrdersHeld
import Derived.Deep.CutBlock
import Derived.Deep.DeepCutAuto

namespace Go.Proofs.YtmhdcnaibleihaaGreatDoor
set_option maxRecDepth 100000
open Go.RowKit
set_option linter.unusedVariables false
set_option linter.unusedSimpArgs false

/-- The block b holds these cells. -/
def Blk (w : World) (b : Nat) (cs : Array Value) (t : TypeId) : Prop := w.heap[b]? = some (.cells cs t (0, 0))
theorem Blk.lt {w : World} {b : Nat} {cs : Array Value} {t : TypeId} (h : Blk w b cs t) : b < w.heap.size := (Array.getElem?_eq_some_iff.1 h).1
theorem Blk.new (w : World) (cs : Array Value) (t : TypeId) : Blk (w.alloc (.cells cs t)) w.heap.size cs t := heap_alloc_new w _
theorem Blk.on {w w' : World} {b : Nat} {cs : Array Value} {t : TypeId} (h : Blk w b cs t) (hx : Ext w w') : Blk w' b cs t := (hx.block b h.lt).trans h
theorem Blk.keeps {w w' : World} {S : Nat → Prop} {b : Nat} {cs : Array Value} {t : TypeId} (h : Blk w b cs t) (hx : Keeps S w w') (hb : ¬ S b) : Blk w' b cs t := (hx.block b h.lt hb).trans h
theorem Blk.cell {w : World} {b : Nat} {cs : Array Value} {t : TypeId} (h : Blk w b cs t) (i : Nat) : w.cell? ⟨b, i, none⟩ = cs[i]? := by
  rw [cell_of_row w b i cs t (0, 0) h]
theorem Blk.frozen {w : World} {b : Nat} {cs : Array Value} {t : TypeId} (h : Blk w b cs t) (i : Nat) : w.frozen? ⟨b, i, none⟩ = false := by
  unfold Blk at h
  simp [World.frozen?, h]
theorem Blk.put {w : World} {b : Nat} {cs : Array Value} {t : TypeId} (h : Blk w b cs t) (ds : Array Value) : Blk (w.setRow b ds) b ds t := setRow_heap w b cs ds t _ h
theorem keeps_put (w : World) (b : Nat) (ds : Array Value) : Keeps (fun x => x = b) w (w.setRow b ds) :=
  ⟨rfl, rfl, rfl, by simp, fun k _ hk => setRow_other w b k ds hk⟩
/-- One cell of the block is stored. -/
theorem Blk.set {w : World} {b i : Nat} {cs : Array Value} {t : TypeId} (h : Blk w b cs t) (v : Value) : Blk (w.setCell ⟨b, i, none⟩ v) b (cs.setIfInBounds i v) t := by
  rw [setCell_eq_setRow w b i cs t _ v h]
  exact h.put _

section
variable {P : Program}
/-- A whole struct into a block that is known whole. -/
theorem wpList_store_blk {ops : Array Oper} {rest : List Oper} {o : Oper} {a : Act} {w : World} {Q : Exit → Act → World → Prop} (hgd : o.guard = none) (ty : TypeId) (x v : Operand) (ho : o.op = .store ty x v) (hd : o.dst = none)
    (b : Nat) (cur cs : Array Value) (t : TypeId) (hb : Blk w b cur t) (hx : a.eval x = .pointer (some ⟨b, 0, none⟩)) (hv : a.eval v = .agg cs) (hi : (P.info? ty).map (·.size) = some cs.size) (hcur : cur.size = cs.size)
    (h1 : ∀ u ∈ cs.toList, u.oneCell' = true) (h : ∀ w', Hid (Blk w' b cs t) → Hid (Keeps (fun x => x = b) w w') → wpList P ops Q rest a w') : wpList P ops Q (o :: rest) a w :=
  wpList_plain hgd fun K hK => by
    obtain ⟨i, hq, hs⟩ := Option.map_eq_some_iff.1 hi
    have hst := run_storeCells_at (P := P) b 0 t cs.toList 0 cur w hb (by simp [hcur]) h1
    have e : (cur.toList.take (0 + 0) ++ cs.toList ++ cur.toList.drop (0 + 0 + cs.toList.length)).toArray = cs := by
      have hd : List.drop cs.size cur.toList = [] := List.drop_of_length_le (by simp [hcur])
      simp [hd]
    rw [e] at hst
    unfold Oper.wp execOp
    have hc : (Value.agg cs).cells = cs := rfl
    have hsz : ∀ w' : World, (sizeOf ty).run P w' = .ok cs.size w' := fun w' => by simp [sizeOf, typeInfo, hq, hs]
    simp only [ho, hx, hv, Instr.storeAt, Instr.sureAddr, storeVar, Sem.run_bind, Sem.run_pure, Result.andThen_ok, hsz, hc, ne_eq, not_true_eq_false, if_false, hst]
    have := hK a _ (h _ (Lib.hid (hb.put cs)) (Lib.hid (keeps_put w b cs)))
    simpa [Oper.upon, hd, Act.put] using this
theorem results_cell {fn : Func} {x : Tmp} {ty : TypeId} (h : fn.results = #[.cell x ty]) {tmps : Array Value} {w : World} {b : Nat} {cs : Array Value} {t : TypeId} (hb : Blk w b cs t) (hv : tmps.getD x undef = .pointer (some ⟨b, 0, none⟩))
    (d : TypeDesc) (hu : P.underlying ty = some d) (hd : (match d with | .struct _ | .array _ _ => true | _ => false) = true) (hi : (P.info? ty).map (·.size) = some cs.size) : (results fn tmps).run P w = .ok (.agg cs) w := by
  have hl := run_loadVar_row (P := P) w b t ty cs (0, 0) d hb hu hd hi
  have hv' : tmps[x]?.getD undef = .pointer (some ⟨b, 0, none⟩) := by simpa using hv
  simp [results, h, hv', asAddr, hl]
theorem results_cell_1 {fn : Func} {x y : Tmp} {ty : TypeId} (h : fn.results = #[.cell x ty, .tmp y]) {tmps : Array Value} {w : World} {b : Nat} {cs : Array Value} {t : TypeId} (hb : Blk w b cs t) (hv : tmps.getD x undef = .pointer (some ⟨b, 0, none⟩))
    (d : TypeDesc) (hu : P.underlying ty = some d) (hd : (match d with | .struct _ | .array _ _ => true | _ => false) = true) (hi : (P.info? ty).map (·.size) = some cs.size) : (results fn tmps).run P w = .ok (.tuple #[.agg cs, tmps.getD y undef]) w := by
  have hl := run_loadVar_row (P := P) w b t ty cs (0, 0) d hb hu hd hi
  have hv' : tmps[x]?.getD undef = .pointer (some ⟨b, 0, none⟩) := by simpa using hv
  simp [results, h, hv', asAddr, hl]
theorem results_cell_2 {fn : Func} {x y z : Tmp} {ty : TypeId} (h : fn.results = #[.cell x ty, .tmp y, .tmp z]) {tmps : Array Value} {w : World} {b : Nat} {cs : Array Value} {t : TypeId} (hb : Blk w b cs t) (hv : tmps.getD x undef = .pointer (some ⟨b, 0, none⟩))
    (d : TypeDesc) (hu : P.underlying ty = some d) (hd : (match d with | .struct _ | .array _ _ => true | _ => false) = true) (hi : (P.info? ty).map (·.size) = some cs.size) : (results fn tmps).run P w = .ok (.tuple #[.agg cs, tmps.getD y undef, tmps.getD z undef]) w := by
  have hl := run_loadVar_row (P := P) w b t ty cs (0, 0) d hb hu hd hi
  have hv' : tmps[x]?.getD undef = .pointer (some ⟨b, 0, none⟩) := by simpa using hv
  simp [results, h, hv', asAddr, hl]
theorem results_1_cell {fn : Func} {x y : Tmp} {ty : TypeId} (h : fn.results = #[.tmp y, .cell x ty]) {tmps : Array Value} {w : World} {b : Nat} {cs : Array Value} {t : TypeId} (hb : Blk w b cs t) (hv : tmps.getD x undef = .pointer (some ⟨b, 0, none⟩))
    (d : TypeDesc) (hu : P.underlying ty = some d) (hd : (match d with | .struct _ | .array _ _ => true | _ => false) = true) (hi : (P.info? ty).map (·.size) = some cs.size) : (results fn tmps).run P w = .ok (.tuple #[tmps.getD y undef, .agg cs]) w := by
  have hl := run_loadVar_row (P := P) w b t ty cs (0, 0) d hb hu hd hi
  have hv' : tmps[x]?.getD undef = .pointer (some ⟨b, 0, none⟩) := by simpa using hv
  simp [results, h, hv', asAddr, hl]
end
end Go.Proofs.YtmhdcnaibleihaaGreatDoor

/- A script of numbers: the next one. -/
namespace Go.Proofs.YtmhdcnaibleihaaGreatDoor
set_option maxRecDepth 100000
open Go.RowKit
set_option linter.unusedVariables false
set_option linter.unusedSimpArgs false

/-- A script: how many numbers were told, the numbers. -/
structure Src (w : World) (sb u : Nat) (l : List Int) : Prop where
  ex : ∃ A c, Blk w sb #[.int .i64 u, .slice A l.length c] 52 ∧ CellsAt w A (l.map I64) ∧ ∀ b o, A = some ⟨b, o, none⟩ → b < sb
theorem Src.on {w w' : World} {sb u : Nat} {l : List Int} (h : Src w sb u l) (hx : Ext w w') : Src w' sb u l := by
  obtain ⟨A, c, h1, h2, h3⟩ := h.ex
  exact ⟨A, c, h1.on hx, h2.ext hx, h3⟩
theorem Src.lt {w : World} {sb u : Nat} {l : List Int} (h : Src w sb u l) : sb < w.heap.size := by
  obtain ⟨A, c, h1, _⟩ := h.ex
  exact h1.lt
theorem Src.keeps {S : Nat → Prop} {w w' : World} {sb u : Nat} {l : List Int} (h : Src w sb u l) (hk : Keeps S w w') (hs : ∀ b, b ≤ sb → ¬ S b) : Src w' sb u l := by
  obtain ⟨A, c, h1, h2, h3⟩ := h.ex
  refine ⟨A, c, h1.keeps hk (hs _ (Nat.le_refl _)), fun hn => ?_, h3⟩
  obtain ⟨b, o, e, hc⟩ := h2 hn
  exact ⟨b, o, e, fun k v hv => hk.cell (hs _ (Nat.le_of_lt (h3 b o e))) (hc k v hv)⟩
theorem asked_yes (sb u : Nat) (v : Value) (bound : Int) (w : World) (hb : Blk w sb #[.int .i64 u, v] 52) (h1 : 1 ≤ bound) (h2 : bound ≤ 100000) (hu : u ≤ 100000) :
    Calls Tryz.prog 321 #[.pointer (some ⟨sb, 0, none⟩), .int .i64 bound] w fun e w' => e = .returned (.bool true) ∧ w' = w.setCell ⟨sb, 0, none⟩ (.int .i64 (u + 1)) := by
  refine of_post fun R hR => ?_
  have hc := hb.cell
  have hf := hb.frozen
  have g1 : ¬ bound < 1 := by omega
  have g2 : ¬ (4294967296 : Int) < bound := by omega
  have g3 : (u : Int) ≤ 100000 := by omega
  clear hb h1 h2 hu
  go_enter Tryz.func321, Tryz.ntmps321
  go_wp2_with fail
  exact hR.out _ _ ⟨rfl, rfl⟩
set_option maxHeartbeats 2000000 in
theorem nextS (sb u : Nat) (l : List Int) (bound : Int) (w : World) (h : Src w sb u l) (hu : u < l.length) (hl : l.length ≤ 10000) (h0 : 0 ≤ l[u]) (hlt : l[u] < bound) (hb : bound ≤ 100000) :
    Calls Tryz.prog 317 #[.pointer (some ⟨sb, 0, none⟩), .int .i64 bound] w fun e w' => e = .returned (.int .i64 l[u]) ∧ Keeps (fun b => b = sb) w w' ∧ Src w' sb (u + 1) l := by
  refine of_post fun R hR => ?_
  obtain ⟨A, c, hblk, hcs, hne⟩ := h.ex
  obtain ⟨b, o, rfl, hcell⟩ := hcs (by intro e; rw [List.map_eq_nil_iff] at e; rw [e] at hu; simp at hu)
  have hci := hcell u (.int .i64 l[u]) (by rw [List.getElem?_map, List.getElem?_eq_getElem hu]; rfl)
  have hbl : b < sb := hne b o rfl
  have hbs : b ≠ sb := by omega
  have HBL := Lib.hid hbl
  clear hbl
  have HAS := Lib.hid (fun W hW => asked_yes sb u (.slice (some ⟨b, o, none⟩) l.length c) bound W hW (by omega) hb (by omega))
  have HBD : Hid (Blk w.drew sb #[.int .i64 u, .slice (some ⟨b, o, none⟩) l.length c] 52) := Lib.hid (hblk.on ((Ext.refl' w).drewN' 1))
  have HB1 : Hid (Blk (w.drew.setCell ⟨sb, 0, none⟩ (.int .i64 ((u : Int) + 1))) sb #[.int .i64 ((u : Int) + 1), .slice (some ⟨b, o, none⟩) l.length c] 52) := Lib.hid (HBD.out.set (i := 0) _)
  have HK1 : Hid (Keeps (fun b => b = sb) w (w.drew.setCell ⟨sb, 0, none⟩ (.int .i64 ((u : Int) + 1)))) := Lib.hid ((Keeps.of_ext ((Ext.refl' w).drewN' 1)).trans (Keeps.set _ ⟨sb, 0, none⟩ _))
  have hci1 := HK1.out.cell hbs hci
  have hc1 := HB1.out.cell
  have HCS := Lib.hid hcs
  generalize l[u] = x at *
  generalize hn : l.length = n at *
  have HNL := Lib.hid hn
  clear hn
  have hmod : Int.tmod x bound = x := Int.tmod_eq_of_lt h0 hlt
  have g1 : (u : Int) + 1 ≤ n := by omega
  have g2 : (u : Int) + 1 - 1 = u := by omega
  have hwr : IntKind.i64.wrap (u : Int) = u := by rw [IntKind.wrap_i64]; omega
  have g4 : (u : Int) < n := by omega
  have g5 : (0 : Int) ≤ u := by omega
  have g3 : ¬ bound = 0 := by omega
  have g6 : ¬ x < 0 := by omega
  generalize hw1 : w.drew.setCell ⟨sb, 0, none⟩ (.int .i64 ((u : Int) + 1)) = w1 at *
  have HW1 := Lib.hid hw1
  clear hw1 hcell hci h hcs hne hblk hlt h0 hl hb
  go_enter Tryz.func317, Tryz.ntmps317
  have hs1 : w1.cell? ⟨sb, 1, none⟩ = some (.slice (some ⟨b, o, none⟩) n c) := hc1 1
  have hs0 : w.drew.cell? ⟨sb, 1, none⟩ = some (.slice (some ⟨b, o, none⟩) n c) := HBD.out.cell 1
  have hs10 : w1.cell? ⟨sb, 0, none⟩ = some (.int .i64 ((u : Int) + 1)) := hc1 0
  clear hc1
  go_upto_region 1 with fail
  refine wp_region_any (by kernel_rfl) ?_
  change wpAny _ _ _ _ _ _ _ (World.drew _)
  refine wpAny_take (i := 0) (oi := ?o0) (v := ?v0) ?h0 (by kernel_rfl) (by kernel_rfl) (by kernel_rfl) ?k0 (Or.inl ⟨?q0, ?y0⟩) ?r0
  case h0 => simp only [List.getElem?_toArray, List.getElem?_cons_succ, List.getElem?_cons_zero]; rfl
  case k0 => exact fun _ _ _ h => h
  case q0 => rfl
  case y0 => intro w; go_simp; try with_reducible rfl
  simp only [Act.put, List.setIfInBounds_toArray, List.set_cons_zero, List.set_cons_succ]
  refine wpAny_take (i := 1) (oi := ?o1) (v := ?v1) ?h1 (by kernel_rfl) (by kernel_rfl) (by kernel_rfl) ?k1 (Or.inl ⟨?q1, ?y1⟩) ?r1
  case h1 => simp only [List.getElem?_toArray, List.getElem?_cons_succ, List.getElem?_cons_zero]; rfl
  case k1 => exact fun _ _ _ h => h
  case q1 => rfl
  case y1 => intro w; go_simp; try with_reducible rfl
  simp only [Act.put, List.setIfInBounds_toArray, List.set_cons_zero, List.set_cons_succ]
  refine wpAny_take (i := 2) (oi := ?o2) (v := ?v2) ?h2 (by kernel_rfl) (by kernel_rfl) (by kernel_rfl) ?k2 (Or.inl ⟨?q2, ?y2⟩) ?r2
  case h2 => simp only [List.getElem?_toArray, List.getElem?_cons_succ, List.getElem?_cons_zero]; rfl
  case k2 => exact fun _ _ _ h => h
  case q2 => rfl
  case y2 => intro w; go_simp; try with_reducible rfl
  simp only [Act.put, List.setIfInBounds_toArray, List.set_cons_zero, List.set_cons_succ]
  refine wpAny_take (i := 3) (oi := ?o3) (v := ?v3) ?h3 (by kernel_rfl) (by kernel_rfl) (by kernel_rfl) ?k3 (Or.inl ⟨?q3, ?y3⟩) ?r3
  case h3 => simp only [List.getElem?_toArray, List.getElem?_cons_succ, List.getElem?_cons_zero]; rfl
  case k3 => exact fun _ _ _ h => h
  case q3 => rfl
  case y3 => intro w; go_simp; try with_reducible rfl
  simp only [Act.put, List.setIfInBounds_toArray, List.set_cons_zero, List.set_cons_succ]
  refine wpAny_ready (rs := [4]) (by kernel_rfl) (by simp) ?_
  refine AllReady.cons rfl (fun K hK => ?_) AllReady.nil
  have HKK := Lib.hid hK
  clear hK
  go_simp
  refine (HAS.out _ HBD.out).mono ?_
  rintro e w1 ⟨rfl, hw⟩
  rw [HW1.out] at hw
  obtain rfl := hw
  show K _ _
  refine HKK.out _ _ ?_
  have HS1 : w1.cell? ⟨sb, 1, none⟩ = some (.slice (some ⟨b, o, none⟩) n c) ∧ w1.cell? ⟨sb, 0, none⟩ = some (.int .i64 ((u : Int) + 1)) := ⟨hs1, hs10⟩
  refine wpAny_of_held (S := fun X => X.cell? ⟨sb, 1, none⟩ = some (.slice (some ⟨b, o, none⟩) n c) ∧ X.cell? ⟨sb, 0, none⟩ = some (.int .i64 ((u : Int) + 1))) _ _ _ _ ?_
  refine wpAnyH_take (i := 5) (oi := ?o5) (v := ?v5) ?h5 (by kernel_rfl) (by kernel_rfl) (by kernel_rfl) ?k5 (Or.inl ⟨?q5, ?y5⟩) HS1 ?r5
  case h5 => simp only [List.getElem?_toArray, List.getElem?_cons_succ, List.getElem?_cons_zero]; rfl
  case k5 => exact fun _ _ _ h => h
  case q5 => rfl
  case y5 => intro w hSw; obtain ⟨hSw1, hSw2⟩ := hSw; go_simp; try with_reducible rfl
  simp only [Act.put, List.setIfInBounds_toArray, List.set_cons_zero, List.set_cons_succ]
  refine wpAnyH_take (i := 6) (oi := ?o6) (v := ?v6) ?h6 (by kernel_rfl) (by kernel_rfl) (by kernel_rfl) ?k6 (Or.inl ⟨?q6, ?y6⟩) HS1 ?r6
  case h6 => simp only [List.getElem?_toArray, List.getElem?_cons_succ, List.getElem?_cons_zero]; rfl
  case k6 => exact fun _ _ _ h => h
  case q6 => rfl
  case y6 => intro w hSw; obtain ⟨hSw1, hSw2⟩ := hSw; go_simp; try with_reducible rfl
  simp only [Act.put, List.setIfInBounds_toArray, List.set_cons_zero, List.set_cons_succ]
  refine wpAnyH_take (i := 7) (oi := ?o7) (v := ?v7) ?h7 (by kernel_rfl) (by kernel_rfl) (by kernel_rfl) ?k7 (Or.inl ⟨?q7, ?y7⟩) HS1 ?r7
  case h7 => simp only [List.getElem?_toArray, List.getElem?_cons_succ, List.getElem?_cons_zero]; rfl
  case k7 => exact fun _ _ _ h => h
  case q7 => rfl
  case y7 => intro w hSw; obtain ⟨hSw1, hSw2⟩ := hSw; go_simp; try with_reducible rfl
  simp only [Act.put, List.setIfInBounds_toArray, List.set_cons_zero, List.set_cons_succ]
  refine wpAnyH_take (i := 8) (oi := ?o8) (v := ?v8) ?h8 (by kernel_rfl) (by kernel_rfl) (by kernel_rfl) ?k8 (Or.inl ⟨?q8, ?y8⟩) HS1 ?r8
  case h8 => simp only [List.getElem?_toArray, List.getElem?_cons_succ, List.getElem?_cons_zero]; rfl
  case k8 => exact fun _ _ _ h => h
  case q8 => rfl
  case y8 => intro w hSw; obtain ⟨hSw1, hSw2⟩ := hSw; go_simp; try with_reducible rfl
  simp only [Act.put, List.setIfInBounds_toArray, List.set_cons_zero, List.set_cons_succ]
  refine wpAnyH_take (i := 9) (oi := ?o9) (v := ?v9) ?h9 (by kernel_rfl) (by kernel_rfl) (by kernel_rfl) ?k9 (Or.inl ⟨?q9, ?y9⟩) HS1 ?r9
  case h9 => simp only [List.getElem?_toArray, List.getElem?_cons_succ, List.getElem?_cons_zero]; rfl
  case k9 => exact fun _ _ _ h => h
  case q9 => rfl
  case y9 => intro w hSw; obtain ⟨hSw1, hSw2⟩ := hSw; go_simp; try with_reducible rfl
  simp only [Act.put, List.setIfInBounds_toArray, List.set_cons_zero, List.set_cons_succ]
  refine wpAnyH_take (i := 10) (oi := ?o10) (v := ?v10) ?h10 (by kernel_rfl) (by kernel_rfl) (by kernel_rfl) ?k10 (Or.inl ⟨?q10, ?y10⟩) HS1 ?r10
  case h10 => simp only [List.getElem?_toArray, List.getElem?_cons_succ, List.getElem?_cons_zero]; rfl
  case k10 => exact fun _ _ _ h => h
  case q10 => rfl
  case y10 => intro w hSw; obtain ⟨hSw1, hSw2⟩ := hSw; go_simp; try with_reducible rfl
  simp only [Act.put, List.setIfInBounds_toArray, List.set_cons_zero, List.set_cons_succ]
  refine wpAnyH_take (i := 11) (oi := ?o11) (v := ?v11) ?h11 (by kernel_rfl) (by kernel_rfl) (by kernel_rfl) ?k11 (Or.inl ⟨?q11, ?y11⟩) HS1 ?r11
  case h11 => simp only [List.getElem?_toArray, List.getElem?_cons_succ, List.getElem?_cons_zero]; rfl
  case k11 => exact fun _ _ _ h => h
  case q11 => rfl
  case y11 => intro w hSw; obtain ⟨hSw1, hSw2⟩ := hSw; go_simp; try with_reducible rfl
  simp only [Act.put, List.setIfInBounds_toArray, List.set_cons_zero, List.set_cons_succ]
  refine wpAnyH_take (i := 12) (oi := ?o12) (v := ?v12) ?h12 (by kernel_rfl) (by kernel_rfl) (by kernel_rfl) ?k12 (Or.inl ⟨?q12, ?y12⟩) HS1 ?r12
  case h12 => simp only [List.getElem?_toArray, List.getElem?_cons_succ, List.getElem?_cons_zero]; rfl
  case k12 => exact fun _ _ _ h => h
  case q12 => rfl
  case y12 => intro w hSw; obtain ⟨hSw1, hSw2⟩ := hSw; go_simp; try with_reducible rfl
  simp only [Act.put, List.setIfInBounds_toArray, List.set_cons_zero, List.set_cons_succ]
  refine wpAnyH_take (i := 13) (oi := ?o13) (v := ?v13) ?h13 (by kernel_rfl) (by kernel_rfl) (by kernel_rfl) ?k13 (Or.inl ⟨?q13, ?y13⟩) HS1 ?r13
  case h13 => simp only [List.getElem?_toArray, List.getElem?_cons_succ, List.getElem?_cons_zero]; rfl
  case k13 => exact fun _ _ _ h => h
  case q13 => rfl
  case y13 => intro w hSw; obtain ⟨hSw1, hSw2⟩ := hSw; go_simp; try with_reducible rfl
  simp only [Act.put, List.setIfInBounds_toArray, List.set_cons_zero, List.set_cons_succ]
  refine wpAnyH_take (i := 14) (oi := ?o14) (v := ?v14) ?h14 (by kernel_rfl) (by kernel_rfl) (by kernel_rfl) ?k14 (Or.inl ⟨?q14, ?y14⟩) HS1 ?r14
  case h14 => simp only [List.getElem?_toArray, List.getElem?_cons_succ, List.getElem?_cons_zero]; rfl
  case k14 => exact fun _ _ _ h => h
  case q14 => rfl
  case y14 => intro w hSw; obtain ⟨hSw1, hSw2⟩ := hSw; go_simp; try with_reducible rfl
  simp only [Act.put, List.setIfInBounds_toArray, List.set_cons_zero, List.set_cons_succ]
  refine wpAnyH_take (i := 15) (oi := ?o15) (v := ?v15) ?h15 (by kernel_rfl) (by kernel_rfl) (by kernel_rfl) ?k15 (Or.inl ⟨?q15, ?y15⟩) HS1 ?r15
  case h15 => simp only [List.getElem?_toArray, List.getElem?_cons_succ, List.getElem?_cons_zero]; rfl
  case k15 => exact fun _ _ _ h => h
  case q15 => rfl
  case y15 => intro w hSw; obtain ⟨hSw1, hSw2⟩ := hSw; go_simp; try with_reducible rfl
  simp only [Act.put, List.setIfInBounds_toArray, List.set_cons_zero, List.set_cons_succ]
  refine wpAnyH_take (i := 16) (oi := ?o16) (v := ?v16) ?h16 (by kernel_rfl) (by kernel_rfl) (by kernel_rfl) ?k16 (Or.inl ⟨?q16, ?y16⟩) HS1 ?r16
  case h16 => simp only [List.getElem?_toArray, List.getElem?_cons_succ, List.getElem?_cons_zero]; rfl
  case k16 => exact fun _ _ _ h => h
  case q16 => rfl
  case y16 => intro w hSw; obtain ⟨hSw1, hSw2⟩ := hSw; go_simp; try with_reducible rfl
  simp only [Act.put, List.setIfInBounds_toArray, List.set_cons_zero, List.set_cons_succ]
  refine wpAnyH_take (i := 17) (oi := ?o17) (v := ?v17) ?h17 (by kernel_rfl) (by kernel_rfl) (by kernel_rfl) ?k17 (Or.inl ⟨?q17, ?y17⟩) HS1 ?r17
  case h17 => simp only [List.getElem?_toArray, List.getElem?_cons_succ, List.getElem?_cons_zero]; rfl
  case k17 => exact fun _ _ _ h => h
  case q17 => rfl
  case y17 => intro w hSw; obtain ⟨hSw1, hSw2⟩ := hSw; go_simp; try with_reducible rfl
  simp only [Act.put, List.setIfInBounds_toArray, List.set_cons_zero, List.set_cons_succ]
  refine wpAnyH_take (i := 18) (oi := ?o18) (v := ?v18) ?h18 (by kernel_rfl) (by kernel_rfl) (by kernel_rfl) ?k18 (Or.inl ⟨?q18, ?y18⟩) HS1 ?r18
  case h18 => simp only [List.getElem?_toArray, List.getElem?_cons_succ, List.getElem?_cons_zero]; rfl
  case k18 => exact fun _ _ _ h => h
  case q18 => rfl
  case y18 => intro w hSw; obtain ⟨hSw1, hSw2⟩ := hSw; go_simp; try with_reducible rfl
  simp only [Act.put, List.setIfInBounds_toArray, List.set_cons_zero, List.set_cons_succ]
  refine wpAnyH_done (by kernel_rfl) ?_ _
  all_goals
    go_wp2_with fail
    go_region
    all_goals
      go_wp2_with fail
      refine hR.out _ _ ⟨rfl, HK1.out.trans (Keeps.of_ext ((Ext.refl' _).drewN' 1)), ⟨some ⟨b, o, none⟩, c, ?_, ?_, ?_⟩⟩
      · have h1 := HB1.out.on ((Ext.refl' _).drewN' 1)
        rw [HNL.out]; exact h1
      · exact fun hne => by
          obtain ⟨b2, o2, e2, hc2⟩ := HCS.out hne
          cases e2
          exact ⟨b, o, rfl, fun k v hk => HK1.out.cell (by exact hbs) (hc2 k v hk)⟩
      · rintro b2 o2 e2; cases e2; exact HBL.out
end Go.Proofs.YtmhdcnaibleihaaGreatDoor

/- A place, by weights. -/
namespace Go.Proofs.YtmhdcnaibleihaaGreatDoor
set_option maxRecDepth 100000
open Go.RowKit
set_option linter.unusedVariables false
set_option linter.unusedSimpArgs false

theorem method_at {P : Program} {t e : TypeId} {name : String} {K : FuncId} {fuel : Nat} {a : Addr} {w : World}
    (h : (P.info? t).bind (fun i => (i.methods.find? (fun m => m.name == name)).map (fun m => (m.path, m.func))) = some (#[], some (K, true)))
    (ht : P.underlying t = some (.pointer e)) : (method (fuel + 1) t (.pointer (some a)) name).run P w = .ok (K, .pointer (some a)) w := by
  obtain ⟨i, hi, h⟩ := Option.bind_eq_some_iff.1 h
  obtain ⟨m, hm, h⟩ := Option.map_eq_some_iff.1 h
  simp only [Prod.mk.injEq] at h
  obtain ⟨hp, hf⟩ := h
  unfold method
  simp [typeInfo, hi, hm, hp, hf, follow, receiverAt, run_underlying ht, Place.get]

theorem meth_next (n sb : Nat) (W : World) : (method (n + 1) 47 (.pointer (some ⟨sb, 0, none⟩)) "Next").run Tryz.prog W = .ok (317, .pointer (some ⟨sb, 0, none⟩)) W :=
  method_at (e := 52) (by kernel_rfl) Tryz.underlying47
def sumL (l : List Int) : Int := l.foldl (· + ·) 0
/-- The place of a number among weights. -/
def placeL : List Int → Int → Nat
  | [], _ => 0
  | w :: l, n => if n < w then 0 else placeL l (n - w) + 1
theorem sum_acc (l : List Int) : ∀ a : Int, l.foldl (· + ·) a = a + sumL l := by
  induction l with
  | nil => intro a; simp [sumL]
  | cons x l ih => intro a; unfold sumL; rw [List.foldl_cons, List.foldl_cons, ih, ih (0 + x)]; omega
theorem sum_cons (x : Int) (l : List Int) : sumL (x :: l) = x + sumL l := by
  unfold sumL; rw [List.foldl_cons, sum_acc]; simp [sumL]
theorem sum_take (l : List Int) (i : Nat) (h : i < l.length) : sumL (l.take (i + 1)) = sumL (l.take i) + l[i] := by
  induction l generalizing i with
  | nil => simp at h
  | cons x l ih => cases i with
    | zero => simp [sum_cons, sumL]
    | succ i => have := ih i (by simpa using h); simp only [List.take_succ_cons, sum_cons, List.getElem_cons_succ, this]; omega
theorem sum_nonneg (l : List Int) (h : ∀ n ∈ l, 1 ≤ n) : 0 ≤ sumL l := by
  induction l with
  | nil => simp [sumL]
  | cons x l ih => rw [sum_cons]; have := h x (by simp); have := ih fun n hn => h n (by simp [hn]); omega
theorem sum_le (l : List Int) (h : ∀ n ∈ l, 1 ≤ n ∧ n ≤ 1000) : sumL l ≤ 1000 * l.length := by
  induction l with
  | nil => simp [sumL]
  | cons x l ih => rw [sum_cons, List.length_cons]; have := h x (by simp); have := ih fun n hn => h n (by simp [hn]); push_cast; omega
theorem sum_take_le (l : List Int) (h : ∀ n ∈ l, 1 ≤ n) (i : Nat) : sumL (l.take i) ≤ sumL l := by
  induction l generalizing i with
  | nil => simp
  | cons x l ih => cases i with
    | zero => have := sum_nonneg (x :: l) h; simpa [sumL] using this
    | succ i => have := ih (fun n hn => h n (by simp [hn])) i; simp only [List.take_succ_cons, sum_cons]; omega
theorem place_drop (l : List Int) (n : Int) (i : Nat) (hi : i ≤ l.length) (h : sumL (l.take i) ≤ n) (hp : ∀ x ∈ l, 1 ≤ x) : placeL l n = i + placeL (l.drop i) (n - sumL (l.take i)) := by
  induction i generalizing l n with
  | zero => simp [sumL]
  | succ i ih =>
    cases l with
    | nil => simp at hi
    | cons x l =>
      rw [List.take_succ_cons, sum_cons] at h
      have h0 := sum_nonneg (l.take i) (fun y hy => hp y (List.mem_cons.2 (.inr (List.mem_of_mem_take hy))))
      rw [placeL, if_neg (by omega), List.drop_succ_cons, List.take_succ_cons, sum_cons, ih l (n - x) (by simpa using hi) (by omega) (fun y hy => hp y (by simp [hy]))]
      rw [show n - x - sumL (l.take i) = n - (x + sumL (l.take i)) by omega]; omega
theorem cells_keep {w w' : World} {A : Option Addr} {cs : List Value} {sb : Nat} (h : CellsAt w A cs) (hk : Keeps (fun b => b = sb) w w') (hne : ∀ b o, A = some ⟨b, o, none⟩ → b ≠ sb) : CellsAt w' A cs := fun hn => by
  obtain ⟨b, o, e, hc⟩ := h hn
  exact ⟨b, o, e, fun k u hu => hk.cell (hne b o e) (hc k u hu)⟩
set_option maxHeartbeats 2000000 in
theorem weighT (sb u : Nat) (l ws : List Int) (A : Option Addr) (c : Nat) (w : World) (h : Src w sb u l) (hu : u < l.length) (hl : l.length ≤ 10000) (h0 : 0 ≤ l[u]) (hlt : l[u] < sumL ws) (hc : CellsAt w A (ws.map I64)) (hne : ∀ b o, A = some ⟨b, o, none⟩ → b ≠ sb)
    (hw : ∀ n ∈ ws, 1 ≤ n ∧ n ≤ 1000) (hn : ws.length ≤ 64) :
    Calls Tryz.prog 320 #[.iface 47 (.pointer (some ⟨sb, 0, none⟩)), .slice A ws.length c] w fun e w' => e = .returned (.tuple #[.int .i64 (placeL ws l[u]), .int .i64 0]) ∧ Keeps (fun b => b = sb) w w' ∧ Src w' sb (u + 1) l := by
  refine of_post fun R hR => ?_
  have hsle := sum_le ws hw
  have HNX := Lib.hid (nextS sb u l (sumL ws) w h hu hl h0 hlt (by omega))
  have HCA := Lib.hid hc
  have HW := Lib.hid hw
  have HNE := Lib.hid hne
  have HTK := fun i h => Lib.hid (sum_take ws i h)
  have HTL := Lib.hid (sum_take_le ws fun n hn => (hw n hn).1)
  have HNN := Lib.hid (sum_nonneg ws fun n hn => (hw n hn).1)
  have HPL := Lib.hid (fun (i : Nat) (hi : i ≤ ws.length) (hq : sumL (ws.take i) ≤ l[u]) => place_drop ws l[u] i hi hq fun n hn => (hw n hn).1)
  have HLT := Lib.hid hlt
  have H0 := Lib.hid h0
  clear h hc hw hne hlt h0 hl
  generalize l[u] = x at *
  go_enter Tryz.func320, Tryz.ntmps320
  go_wp2_with fail
  go_loopw [6, 14] (fun sv iv wr => ∃ i : Nat, iv = .int .i64 i ∧ i ≤ ws.length ∧ sv = .int .i64 (sumL (ws.take i)) ∧ wr = w) (fun _ iv _ => ws.length - (intOf iv).toNat)
  case atStart => exact ⟨0, rfl, Nat.zero_le _, rfl, rfl⟩
  case round =>
    obtain ⟨i, rfl, hi, rfl, rfl⟩ := hrel
    by_cases hil : i < ws.length
    · obtain ⟨b, o, rfl, hcell⟩ := HCA.out (by simp; rintro rfl; simp at hil)
      have hci : wr.cell? ⟨b, o + i, none⟩ = some (.int .i64 ws[i]) := hcell i _ (by rw [List.getElem?_map, List.getElem?_eq_getElem hil]; rfl)
      obtain ⟨hd1, hd2⟩ := HW.out _ (List.getElem_mem hil)
      have htk := (HTK i hil).out
      have g1 := HTL.out i
      have g2 := HTL.out (i + 1)
      have g0 : 0 ≤ sumL (ws.take i) := sum_nonneg _ fun y hy => (HW.out y (List.mem_of_mem_take hy)).1
      have k1 : ¬ ws[i] < 1 := by omega
      have k2 : ¬ (1000 : Int) < ws[i] := by omega
      have k3 : ¬ (64 : Int) < ws.length := by omega
      have HQ := Lib.hid htk
      clear hcell htk HTK HTL
      generalize ws[i] = y at *
      generalize sumL (ws.take i) = q at *
      go_wp2_with fail
      go_roundw
      case rel => exact ⟨i + 1, by go_num, hil, by rw [HQ.out], trivial⟩
      case measure => simp [intOf]; omega
    · obtain rfl : i = ws.length := by omega
      rw [List.take_length]
      have hz : ¬ sumL ws = 0 := by have := HLT.out; have := H0.out; omega
      have hs1 : 0 ≤ sumL ws := HNN.out
      have hz2 : (sumL ws == 0) = false := by simpa using hz
      generalize hsm : sumL ws = sm at *
      have HSM := Lib.hid hsm
      clear hsm
      have hmn := fun n W => meth_next n sb W
      go_wp2_with (go_at_call 317; refine HNX.out.mono ?_; rintro e w2 ⟨rfl, hk, hs⟩; have HK := Lib.hid hk; have HS2 := Lib.hid hs; clear hk hs)
      have HCB := Lib.hid (cells_keep HCA.out HK.out HNE.out)
      clear hmn hz hz2 hs1
      go_loopw [9, 40] (fun nv iv wr => ∃ i : Nat, iv = .int .i64 i ∧ i ≤ ws.length ∧ nv = .int .i64 (x - sumL (ws.take i)) ∧ Hid (sumL (ws.take i) ≤ x) ∧ wr = w2) (fun _ iv _ => ws.length - (intOf iv).toNat)
      case atStart => exact ⟨0, rfl, Nat.zero_le _, by simp [sumL], Lib.hid (by simpa [sumL] using H0.out), rfl⟩
      case round =>
        obtain ⟨i, rfl, hi2, rfl, HQ, rfl⟩ := hrel
        by_cases hil : i < ws.length
        · obtain ⟨b, o, rfl, hcell⟩ := HCB.out (by simp; rintro rfl; simp at hil)
          have hci : wr.cell? ⟨b, o + i, none⟩ = some (.int .i64 ws[i]) := hcell i _ (by rw [List.getElem?_map, List.getElem?_eq_getElem hil]; rfl)
          have hpl := HPL.out i hi2 HQ.out
          rw [List.drop_eq_getElem_cons hil, placeL] at hpl
          have htk := (HTK i hil).out
          obtain ⟨hd1, hd2⟩ := HW.out _ (List.getElem_mem hil)
          have g0 : 0 ≤ sumL (ws.take i) := sum_nonneg _ fun y hy => (HW.out y (List.mem_of_mem_take hy)).1
          have g1 := HQ.out
          have gx : x ≤ 100000 := by have := HLT.out; omega
          by_cases hlt2 : x - sumL (ws.take i) < ws[i]
          · rw [if_pos hlt2] at hpl
            have HPE := Lib.hid hpl
            clear hpl hcell HTK HTL HPL
            generalize ws[i] = y at *
            generalize sumL (ws.take i) = q at *
            go_wp2_with fail
            exact hR.out _ _ ⟨by rw [HPE.out]; rfl, HK.out, HS2.out⟩
          · have HQ3 : Hid (sumL (ws.take (i + 1)) ≤ x) := Lib.hid (by rw [htk]; omega)
            have HQ4 : Hid (x - sumL (ws.take (i + 1)) = x - sumL (ws.take i) - ws[i]) := Lib.hid (by rw [htk]; omega)
            clear hpl hcell HTK HTL HPL htk
            generalize ws[i] = y at *
            generalize sumL (ws.take i) = q at *
            go_wp2_with fail
            go_roundw
            case rel => exact ⟨i + 1, by go_num, hil, by rw [HQ4.out], HQ3, trivial⟩
            case measure => simp [intOf]; omega
        · exfalso
          obtain rfl : i = ws.length := by omega
          have h1 := HQ.out
          rw [List.take_length] at h1
          have h2 := HLT.out
          have h3 := HSM.out
          omega
end Go.Proofs.YtmhdcnaibleihaaGreatDoor
