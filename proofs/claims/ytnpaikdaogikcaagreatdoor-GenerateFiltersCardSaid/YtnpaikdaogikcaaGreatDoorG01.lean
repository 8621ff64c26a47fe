/- The words that all walks of this seat use: slices that read as lists, what stays as it was. -/
import Derived.Test.YtnpaikdaogikcaaGreatDoorProg
import Derived.WalkKit
import Derived.WalkSpells
import Derived.WalkLawsBesides
import Derived.Deep.QuietTactic
import Derived.BigQuiet
import Derived.Lib.Hide
import Derived.Deep.AppendLies
import Derived.Maps.AppendAt
import Derived.RegionTactic
import Derived.BigRegion

namespace Go.Proofs.YtnpaikdaogikcaaGreatDoor
set_option maxRecDepth 100000
set_option linter.unusedSimpArgs false
set_option linter.unusedVariables false
open Go.RowKit

/-- The post stays a letter while the walk runs. -/
theorem of_post {P : Program} {f : FuncId} {args : Array Value} {w : World} {R0 : Ending → World → Prop}
    (h : ∀ R : Ending → World → Prop, Hid (∀ e w', R0 e w' → R e w') → Calls P f args w R) : Calls P f args w R0 := h _ (Lib.hid fun _ _ h => h)

theorem ret_b {v : Value} {p : Prop} [Decidable p] {b : Bool} (hv : v = .bool b) (h : b = true ↔ p) : Ending.returned v = .returned (.bool (decide p)) := by
  subst hv; congr 2; rw [Bool.eq_iff_iff]; simp [h]
theorem ret_bb {v : Value} {p b : Bool} (hv : v = .bool b) (h : b = p) : Ending.returned v = .returned (.bool p) := by
  subst hv; rw [h]
theorem ret_i {v : Value} {k : IntKind} {a b : Int} (hv : v = .int k a) (h : a = b) : Ending.returned v = .returned (.int k b) := by
  subst hv; rw [h]

/-- What was there is as it was. -/
abbrev Ext (w w' : World) : Prop := Below w.heap.size w w'
theorem Ext.trans' {a b c : World} (h : Ext a b) (k : Ext b c) : Ext a c := Below.trans h (k.mono h.size)
theorem Ext.refl' (w : World) : Ext w w := Below.refl _ _
theorem Ext.drewN' {a w : World} (h : Ext a w) (n : Nat) : Ext a (w.drewN n) := ⟨h.os, h.tape, h.output, h.size, h.block⟩
theorem Ext.alloc' {a w : World} (h : Ext a w) (o : Obj) : Ext a (w.alloc o) := Below.alloc h h.size o
theorem lt_of_cell {w : World} {p : Addr} {v : Value} (h : w.cell? p = some v) : p.block < w.heap.size := by
  unfold World.cell? at h
  rcases Nat.lt_or_ge p.block w.heap.size with hlt | hge
  · exact hlt
  · rw [Array.getElem?_eq_none hge] at h; simp at h
theorem Ext.cell' {w w' : World} (hx : Ext w w') {p : Addr} {v : Value} (h : w.cell? p = some v) : w'.cell? p = some v := (hx.cell (lt_of_cell h)).trans h

end Go.Proofs.YtnpaikdaogikcaaGreatDoor

/- Slices of the call's own, and what is appended to them: laws over any program. -/
namespace Go.Proofs.YtnpaikdaogikcaaGreatDoor
set_option maxRecDepth 100000
open Go.RowKit
set_option linter.unusedVariables false
set_option linter.unusedSimpArgs false

/-- A slice's cells, where it holds any. -/
def CellsAt (w : World) (A : Option Addr) (cs : List Value) : Prop :=
  cs ≠ [] → ∃ b o, A = some ⟨b, o, none⟩ ∧ ∀ k u, cs[k]? = some u → w.cell? ⟨b, o + k, none⟩ = some u
theorem CellsAt.ext {w w' : World} {A : Option Addr} {cs : List Value} (h : CellsAt w A cs) (hx : Ext w w') : CellsAt w' A cs := fun hn =>
  let ⟨b, o, e, hc⟩ := h hn
  ⟨b, o, e, fun k u hk => hx.cell' (hc k u hk)⟩
theorem CellsAt.nil (w : World) (A : Option Addr) : CellsAt w A [] := fun h => absurd rfl h

theorem CellsAt.at_ {w : World} {A : Option Addr} {cs : List Value} (h : CellsAt w A cs) {k : Nat} (hk : k < cs.length) :
    ∃ b o, A = some ⟨b, o, none⟩ ∧ w.cell? ⟨b, o + k, none⟩ = some cs[k] := by
  obtain ⟨b, o, e, hc⟩ := h (by rintro rfl; simp at hk)
  exact ⟨b, o, e, hc k _ (List.getElem?_eq_getElem hk)⟩

theorem CellsAt.take {w : World} {A : Option Addr} {cs : List Value} (h : CellsAt w A cs) (k : Nat) : CellsAt w A (cs.take k) := fun hn => by
  obtain ⟨b, o, e, hc⟩ := h (by rintro rfl; simp at hn)
  refine ⟨b, o, e, fun j u hj => hc j u ?_⟩
  rw [List.getElem?_take] at hj
  split at hj
  · exact hj
  · cases hj
theorem addr_add (b o k : Nat) : (⟨b, o, none⟩ : Addr).add k = ⟨b, o + k, none⟩ := by unfold Addr.add; split <;> simp_all
theorem CellsAt.drop {w : World} {A : Option Addr} {cs : List Value} (h : CellsAt w A cs) (k : Nat) : CellsAt w (A.map (·.add k)) (cs.drop k) := fun hn => by
  obtain ⟨b, o, rfl, hc⟩ := h (by rintro rfl; simp at hn)
  refine ⟨b, o + k, by rw [Option.map_some, addr_add], fun j u hj => ?_⟩
  rw [List.getElem?_drop] at hj
  rw [Nat.add_assoc]
  exact hc _ u hj
theorem CellsAt.cut {w : World} {A : Option Addr} {cs : List Value} (h : CellsAt w A cs) (k c : Nat) (hc : cs.length ≤ c) : CellsAt w (if c = k then A else A.map (·.add k)) (cs.drop k) := by
  by_cases e : c = k
  · rw [if_pos e, List.drop_of_length_le (by omega)]
    exact CellsAt.nil _ _
  · rw [if_neg e]; exact h.drop k
theorem cellsAt_new (w : World) (cs : List Value) (t : TypeId) : CellsAt (w.alloc (.cells cs.toArray t)) (some ⟨w.heap.size, 0, none⟩) cs := fun _ =>
  ⟨w.heap.size, 0, rfl, fun k u hk => by
    rw [Nat.zero_add, cell_of_row _ _ _ _ _ _ (heap_alloc_new w _)]
    simpa using hk⟩
theorem cellsAt_new2 (w : World) (o : Obj) (cs : List Value) (t : TypeId) : CellsAt ((w.alloc o).alloc (.cells cs.toArray t)) (some ⟨w.heap.size + 1, 0, none⟩) cs := by
  have := cellsAt_new (w.alloc o) cs t
  rwa [World.size_alloc] at this
theorem CellsAt.drew {w : World} {A : Option Addr} {cs : List Value} (h : CellsAt w A cs) : CellsAt w.drew A cs := h
theorem cellsAt_of_own {w : World} {base : Nat} {e : TypeId} {size n : Nat} {A : Option Addr} {c : Nat} {cs : List Value} (h : w.ownsRow base e size (.slice A n c) n cs) : CellsAt w A cs := by
  intro hne
  rcases h.2 with ⟨h1, h2⟩ | ⟨g, cap, cur, hv, _, _⟩
  · subst h2
    exact absurd (List.eq_nil_of_length_eq_zero (by simpa using h.1)) hne
  · injection hv with hA
    subst hA
    refine ⟨g, 0, rfl, fun k u hu => ?_⟩
    have := h.cells (g := g) rfl k u hu
    have ha : (⟨g, 0, none⟩ : Addr).add k = ⟨g, 0 + k, none⟩ := by unfold Addr.add; split <;> simp_all
    rwa [ha] at this

theorem ext_grown {w w' : World} {row : Option Nat} (h : w.grownBy w' row) (hr : ∀ k, row = some k → w.heap.size ≤ k) : Ext w w' :=
  ⟨h.os, h.tape, h.output, h.size, fun k hk => h.block k hk (fun e => by have := hr k e.symm; omega)⟩
theorem ext_grown_from {w0 w w' : World} {row : Option Nat} (hx : Ext w0 w) (h : w.grownBy w' row) (hr : ∀ k, row = some k → w0.heap.size ≤ k) : Ext w0 w' :=
  Below.grown hx h hx.size hr

theorem own_form {w : World} {base : Nat} {e : TypeId} {size n : Nat} {v : Value} {cs : List Value} (h : w.ownsRow base e size v n cs) : ∃ A c, v = .slice A n c := by
  rcases h.2 with ⟨rfl, rfl⟩ | ⟨g, cap, cur, rfl, _⟩
  · exact ⟨_, _, rfl⟩
  · exact ⟨_, _, rfl⟩
theorem own_ext {w w' : World} {base : Nat} {e : TypeId} {size n : Nat} {v : Value} {cs : List Value} (h : w.ownsRow base e size v n cs) (hx : Ext w w') : w'.ownsRow base e size v n cs :=
  h.kept (row := none) ⟨hx.os, hx.tape, hx.output, hx.size, fun k hk _ => hx.block k hk⟩ (by cases v.ownBlock <;> simp)
theorem own_empty (w : World) (e : TypeId) (size : Nat) : (w.alloc (.cells #[] e)).ownsRow w.heap.size e size (.slice (some ⟨w.heap.size, 0, none⟩) 0 0) 0 [] :=
  World.ownsRow_made w #[] 0 (Nat.le_refl _) (by unfold maxLen; omega) (by simp)
theorem own_mono {w : World} {base base' : Nat} {e : TypeId} {size n : Nat} {v : Value} {cs : List Value} (h : w.ownsRow base e size v n cs) (hb : base' ≤ base) : w.ownsRow base' e size v n cs :=
  ⟨h.1, h.2.imp id fun ⟨g, cap, cur, h1, h2, h3⟩ => ⟨g, cap, cur, h1, Nat.le_trans hb h2, h3⟩⟩
theorem own_some {w : World} {base : Nat} {e : TypeId} {size n : Nat} {v : Value} {cs : List Value} {g0 : Nat} (h : w.ownsRow base e size v n cs) (hb : v.ownBlock = some g0) :
    ∃ c, v = .slice (some ⟨g0, 0, none⟩) n c := by
  rcases h.2 with ⟨rfl, rfl⟩ | ⟨g, cap, cur, rfl, _⟩
  · simp [Value.ownBlock] at hb
  · simp [Value.ownBlock] at hb; subst hb; exact ⟨_, rfl⟩

def I64 (x : Int) : Value := .int .i64 x
theorem oneCells_I64 (xs : List Int) : ∀ u ∈ xs.map I64, u.oneCell' = true := by
  intro u hu
  obtain ⟨x, _, rfl⟩ := List.mem_map.1 hu
  rfl
theorem IS_of_cells {w : World} {A : Option Addr} {xs : List Int} (h : CellsAt w A (xs.map I64)) :
    xs ≠ [] → ∃ b o, A = some ⟨b, o, none⟩ ∧ ∀ k, k < xs.length → w.cell? ⟨b, o + k, none⟩ = some (.int .i64 (xs[k]?.getD 0)) := fun hn => by
  obtain ⟨b, o, e, hc⟩ := h (by simpa using hn)
  refine ⟨b, o, e, fun k hk => hc k _ ?_⟩
  rw [List.getElem?_map, List.getElem?_eq_getElem hk]; rfl
theorem cells_of_IS {w : World} {A : Option Addr} {xs : List Int}
    (h : xs ≠ [] → ∃ b o, A = some ⟨b, o, none⟩ ∧ ∀ k, k < xs.length → w.cell? ⟨b, o + k, none⟩ = some (.int .i64 (xs[k]?.getD 0))) : CellsAt w A (xs.map I64) := fun hn => by
  obtain ⟨b, o, e, hc⟩ := h (by simpa using hn)
  refine ⟨b, o, e, fun k u hu => ?_⟩
  rw [List.getElem?_map] at hu
  cases hk : xs[k]? with
  | none => rw [hk] at hu; simp at hu
  | some x =>
    rw [hk] at hu
    have hlt := (List.getElem?_eq_some_iff.1 hk).1
    have := hc k hlt
    rw [hk] at this
    simp at hu
    rw [this, ← hu]; rfl

section
variable {P : Program} (w : World)

theorem run_append_of_none (base : Nat) (t ty e : TypeId) (i : TypeInfo) (size : Nat) (ht : P.underlying t = some (.slice e)) (hi : P.info? e = some i)
    (v : Value) (n : Nat) (xs : List Value) (hown : w.ownsRow base e size v n xs) (A : Option Addr) (c : Nat) : (Builtin.append_ #[t, t] ty #[v, .slice A 0 c]).run P w = .ok v w := by
  rcases hown.2 with ⟨rfl, rfl⟩ | ⟨g, cap, cur, rfl, _, _, hnc, _⟩ <;> cases A <;>
    simp [Builtin.append_, run_underlying ht, sizeOf, typeInfo, hi, Builtin.lenOf, Builtin.firstCells, storeCells, loadCells, loadCellsFrom, *]

theorem run_append_src (base : Nat) (t ty e : TypeId) (i : TypeInfo) (z : Value) (size bytes : Nat) (ht : P.underlying t = some (.slice e)) (hi : P.info? e = some i) (hz : i.zero = some z)
    (hsize : i.size = size) (hby : i.bytes = bytes) (hzs : z.cells.size = size) (hsz : 0 < size)
    (v : Value) (n : Nat) (xs : List Value) (hown : w.ownsRow base e size v n xs)
    (A : Option Addr) (m c : Nat) (news : List Value) (hl : news.length = m * size) (hr : CellsAt w A news) (h1 : ∀ u ∈ news, u.oneCell' = true)
    (hbytes : (n + m) * bytes ≤ 140737488355328) (h63 : n + m ≤ maxLen) (hbase : base ≤ w.heap.size) :
    ∃ v' w', (Builtin.append_ #[t, t] ty #[v, .slice A m c]).run P w = .ok v' w' ∧ w'.ownsRow base e size v' (n + m) (xs ++ news) ∧ w.grownBy w' v.ownBlock ∧
      (v'.ownBlock = v.ownBlock ∨ v'.ownBlock = some w.heap.size) := by
  by_cases hm : m = 0
  · subst hm
    have hn : news = [] := List.eq_nil_of_length_eq_zero (by simpa using hl)
    subst hn
    exact ⟨v, w, run_append_of_none w base t ty e i size ht hi v n xs hown A c, by simpa using hown, World.grownBy.refl w _, .inl rfl⟩
  · have hne : news ≠ [] := by
      rintro rfl
      have : 0 < m * size := Nat.mul_pos (by omega) hsz
      simp at hl; omega
    obtain ⟨b, o, rfl, hc⟩ := hr hne
    have hcells : ∀ j u, news[j]? = some u → w.cell? ((⟨b, o, none⟩ : Addr).add j) = some u := fun j u hu => by
      have ha : (⟨b, o, none⟩ : Addr).add j = ⟨b, o + j, none⟩ := by unfold Addr.add; split <;> simp_all
      rw [ha]; exact hc j u hu
    obtain ⟨v', w', hrun, h2, h3, _, h5⟩ := run_append_own_at (P := P) w base t ty e i z size bytes ht hi hz hsize hby hzs hsz v n xs hown ⟨b, o, none⟩ m c news hl hcells h1 h63 hbytes hbase
    exact ⟨v', w', hrun, h2, h3, h5⟩

theorem wp_append_src {o : Oper} {a : Act} {K : Act → World → Prop} {Q : Exit → Act → World → Prop} (s x : Operand) (t : TypeId)
    (ho : o.op = .call { callee := .builtin .append, args := #[s, x], argTypes := #[t, t] })
    (base : Nat) (e : TypeId) (i : TypeInfo) (z : Value) (size bytes : Nat) (ht : P.underlying t = some (.slice e)) (hi : P.info? e = some i) (hz : i.zero = some z)
    (hsize : i.size = size) (hby : i.bytes = bytes) (hzs : z.cells.size = size) (hsz : 0 < size)
    (v : Value) (n : Nat) (xs : List Value) (hs : a.eval s = v) (hown : w.ownsRow base e size v n xs)
    (A : Option Addr) (m c : Nat) (news : List Value) (hx : a.eval x = .slice A m c) (hl : news.length = m * size) (hr : CellsAt w A news) (h1 : ∀ u ∈ news, u.oneCell' = true)
    (hbytes : (n + m) * bytes ≤ 140737488355328) (h63 : n + m ≤ maxLen) (hbase : base ≤ w.heap.size)
    (h : ∀ v' w', w'.ownsRow base e size v' (n + m) (xs ++ news) → w.grownBy w' v.ownBlock → (v'.ownBlock = v.ownBlock ∨ v'.ownBlock = some w.heap.size) → K (a.put o.dst v') w') : o.wp P a w K Q := by
  obtain ⟨v', w', hrun, h2, h3, h4⟩ := run_append_src (P := P) w base t o.type e i z size bytes ht hi hz hsize hby hzs hsz v n xs hown A m c news hl hr h1 hbytes h63 hbase
  unfold Oper.wp execOp
  simp only [ho, resolve, invoke, builtin, Sem.run_bind, Sem.run_pure, Result.andThen_ok, List.map_toArray, List.map_cons, List.map_nil, hs, hx, hrun]
  exact h v' w' h2 h3 h4

theorem wpList_append_src {ops : Array Oper} {rest : List Oper} {o : Oper} {a : Act} {Q : Exit → Act → World → Prop} (hgd : o.guard = none) (s x : Operand) (t : TypeId)
    (ho : o.op = .call { callee := .builtin .append, args := #[s, x], argTypes := #[t, t] })
    (base : Nat) (e : TypeId) (i : TypeInfo) (z : Value) (size bytes : Nat) (ht : P.underlying t = some (.slice e)) (hi : P.info? e = some i) (hz : i.zero = some z)
    (hsize : i.size = size) (hby : i.bytes = bytes) (hzs : z.cells.size = size) (hsz : 0 < size)
    (v : Value) (n : Nat) (xs : List Value) (hs : a.eval s = v) (hown : w.ownsRow base e size v n xs)
    (A : Option Addr) (m c : Nat) (news : List Value) (hx : a.eval x = .slice A m c) (hl : news.length = m * size) (hr : CellsAt w A news) (h1 : ∀ u ∈ news, u.oneCell' = true)
    (hbytes : (n + m) * bytes ≤ 140737488355328) (h63 : n + m ≤ maxLen) (hbase : base ≤ w.heap.size)
    (h : ∀ v' w', w'.ownsRow base e size v' (n + m) (xs ++ news) → w.grownBy w' v.ownBlock → (v'.ownBlock = v.ownBlock ∨ v'.ownBlock = some w.heap.size) → wpList P ops Q rest (a.put o.dst v') w') : wpList P ops Q (o :: rest) a w :=
  wpList_plain hgd fun _ hK => wp_append_src w s x t ho base e i z size bytes ht hi hz hsize hby hzs hsz v n xs hs hown A m c news hx hl hr h1 hbytes h63 hbase fun v' w' h2 h3 h4 => hK _ _ (h v' w' h2 h3 h4)

/-- append(nil, make([]T, n)...) -/
theorem run_append_zeros_nil (t ti ty e : TypeId) (i : TypeInfo) (z : Value) {k kx : IntKind} (ht : P.underlying t = some (.slice e)) (hti : P.underlying ti = some (.int k)) (hi : P.info? e = some i) (hz : i.zero = some z)
    (hzs : z.cells.size = i.size) (hsz : 0 < i.size) (n : Nat) (hn : 0 < n) (hb : n * i.bytes ≤ 140737488355328) (h63 : n ≤ 140737488355328) :
    ∃ cap cur, (Builtin.append_ #[t, ti] ty #[.slice none 0 0, .int kx n]).run P w = .ok (.slice (some ⟨w.heap.size, 0, none⟩) n cap) (w.drew.alloc (.cells cur e)) ∧ n ≤ cap ∧ cap ≤ maxLen ∧ cur.size = cap * i.size := by
  have hw : IntKind.i64.wrap (n : Int) = n := by rw [IntKind.wrap_i64]; omega
  have hneg : ¬ ((n : Int) < 0) := by omega
  have hbig : ¬ (281474976710656 < (n : Int) * (i.bytes : Int)) := by
    rw [← Int.natCast_mul]; omega
  have h63' : ¬ (9223372036854775807 < (n : Int)) := by omega
  have hn0 : ¬ n = 0 := by omega
  have hsn : ¬ i.size = 0 := by omega
  have hns : ¬ (n * i.size = 0) := Nat.mul_ne_zero hn0 hsn
  have hfit := growslice_fits (old := 0) (need := n) (by omega) hb
  have h48 : ¬ (281474976710656 < Builtin.nextslicecap n 0 * i.bytes) := by omega
  have hge := grownCap_ge w n 0 e
  have hcm := grownCap_le_maxLen w n 0 e (by simp only [maxLen]; omega)
  refine ⟨grownCap w n 0 e, Builtin.zeroCells z.cells n ++ Builtin.zeroCells z.cells (grownCap w n 0 e - n), ?_, hge, hcm, ?_⟩
  · simp [Builtin.append_, run_underlying ht, run_underlying hti, sizeOf, typeInfo, zeroValue, hi, hz, asInt, asIntOf, hw, hneg, hbig, hn0, hsn, hns, h63', h48, Question.forced, newRow, grownCap, Builtin.firstCells]
  · simp only [Array.size_append, size_zeroCells, hzs, ← Nat.add_mul]
    congr 1
    omega

theorem wpList_append_zeros_nil {ops : Array Oper} {rest : List Oper} {o : Oper} {a : Act} {Q : Exit → Act → World → Prop} (hgd : o.guard = none) (s x : Operand) (t ti : TypeId)
    (ho : o.op = .call { callee := .builtin .append, args := #[s, x], argTypes := #[t, ti] })
    (e : TypeId) (i : TypeInfo) (z : Value) {k kx : IntKind} (ht : P.underlying t = some (.slice e)) (hti : P.underlying ti = some (.int k)) (hi : P.info? e = some i) (hz : i.zero = some z)
    (hzs : z.cells.size = i.size) (hsz : 0 < i.size) (n : Nat) (hn : 0 < n) (hb : n * i.bytes ≤ 140737488355328) (h63 : n ≤ 140737488355328)
    (hs : a.eval s = .slice none 0 0) (hx : a.eval x = .int kx n)
    (h : ∀ cap cur, n ≤ cap → cap ≤ maxLen → cur.size = cap * i.size → wpList P ops Q rest (a.put o.dst (.slice (some ⟨w.heap.size, 0, none⟩) n cap)) (w.drew.alloc (.cells cur e))) : wpList P ops Q (o :: rest) a w :=
  wpList_plain hgd fun K hK => by
    obtain ⟨cap, cur, hr, h1, h2, h3⟩ := run_append_zeros_nil (P := P) w t ti o.type e i z (kx := kx) ht hti hi hz hzs hsz n hn hb h63
    unfold Oper.wp execOp
    simp only [ho, resolve, invoke, builtin, Sem.run_bind, Sem.run_pure, Result.andThen_ok, List.map_toArray, List.map_cons, List.map_nil, hs, hx, hr]
    exact hK _ _ (h cap cur h1 h2 h3)

theorem setRow_new (cur cs : Array Value) (t : TypeId) : (w.alloc (.cells cur t)).setRow w.heap.size cs = w.alloc (.cells cs t) := by
  simp only [World.setRow, World.alloc]
  congr 1
  apply Array.ext_getElem?
  intro i
  rw [Array.getElem?_modify, Array.getElem?_push, Array.getElem?_push]
  by_cases h : w.heap.size = i
  · subst h; simp
  · rw [if_neg h, if_neg (fun e => h e.symm), if_neg (fun e => h e.symm)]

/-- A whole value of several cells into the block that has just been made for it. -/
theorem wpList_store_new {ops : Array Oper} {rest : List Oper} {o : Oper} {a : Act} {Q : Exit → Act → World → Prop} (hgd : o.guard = none) (ty : TypeId) (x v : Operand) (ho : o.op = .store ty x v) (hd : o.dst = none)
    (cur cs : Array Value) (t : TypeId) (hx : a.eval x = .pointer (some ⟨w.heap.size, 0, none⟩)) (hv : a.eval v = .agg cs) (hi : (P.info? ty).map (·.size) = some cs.size) (hcur : cur.size = cs.size)
    (h1 : ∀ u ∈ cs.toList, u.oneCell' = true) (h : wpList P ops Q rest a (w.alloc (.cells cs t))) : wpList P ops Q (o :: rest) a (w.alloc (.cells cur t)) :=
  wpList_plain hgd fun K hK => by
    obtain ⟨i, hq, hs⟩ := Option.map_eq_some_iff.1 hi
    have hg : (w.alloc (.cells cur t)).heap[w.heap.size]? = some (.cells cur t (0, 0)) := heap_alloc_new w _
    have hst := run_storeCells_at (P := P) w.heap.size 0 t cs.toList 0 cur (w.alloc (.cells cur t)) hg (by simp [hcur]) h1
    have e : (cur.toList.take (0 + 0) ++ cs.toList ++ cur.toList.drop (0 + 0 + cs.toList.length)).toArray = cs := by
      have hd : List.drop cs.size cur.toList = [] := List.drop_of_length_le (by simp [hcur])
      simp [hd]
    rw [e, setRow_new] at hst
    unfold Oper.wp execOp
    have hc : (Value.agg cs).cells = cs := rfl
    have hsz : ∀ w' : World, (sizeOf ty).run P w' = .ok cs.size w' := fun w' => by simp [sizeOf, typeInfo, hq, hs]
    simp only [ho, hx, hv, Instr.storeAt, Instr.sureAddr, storeVar, Sem.run_bind, Sem.run_pure, Result.andThen_ok, hsz, hc, ne_eq, not_true_eq_false, if_false, hst]
    have := hK a _ h
    simpa [Oper.upon, hd, Act.put] using this

/-- append(out, x): one element of one cell. -/
theorem wpList_append_one {ops : Array Oper} {rest : List Oper} {o : Oper} {a : Act} {Q : Exit → Act → World → Prop} (hgd : o.guard = none) (s x : Operand) (t : TypeId)
    (ho : o.op = .call { callee := .builtin .append, args := #[s, x], argTypes := #[t, t] })
    (base : Nat) (e : TypeId) (i : TypeInfo) (z : Value) (bytes : Nat) (ht : P.underlying t = some (.slice e)) (hi : P.info? e = some i) (hz : i.zero = some z)
    (hsize : i.size = 1) (hby : i.bytes = bytes) (hzs : z.cells.size = 1)
    (v : Value) (n : Nat) (us : List Value) (hs : a.eval s = v) (hown : w.ownsRow base e 1 v n us)
    (c : Value) (h1 : c.oneCell' = true) (hx : a.eval x = .slice (some ⟨w.heap.size, 0, none⟩) 1 1)
    (hbytes : (n + 1) * bytes ≤ 140737488355328) (h63 : n + 1 ≤ maxLen) (hbase : base ≤ w.heap.size)
    (h : ∀ v' w', w'.ownsRow base e 1 v' (n + 1) (us ++ [c]) → w.grownBy w' v.ownBlock → wpList P ops Q rest (a.put o.dst v') w') : wpList P ops Q (o :: rest) a (w.alloc (.cells #[c] e)) :=
  wpList_append_src (w.alloc (.cells #[c] e)) hgd s x t ho base e i z 1 bytes ht hi hz hsize hby hzs (by omega) v n us hs (hown.alloc _) _ 1 1 [c] hx (by simp) (cellsAt_new w [c] e)
    (by intro u hu; simp only [List.mem_singleton] at hu; subst hu; exact h1) hbytes h63 (by simp; omega)
    fun v' w' h2 h3 _ => h v' w' h2 ((World.grownBy_alloc w _ _).trans h3)

end
end Go.Proofs.YtnpaikdaogikcaaGreatDoor

/- Every block but some stands. -/
namespace Go.Proofs.YtnpaikdaogikcaaGreatDoor
set_option maxRecDepth 100000
open Go.RowKit
set_option linter.unusedVariables false
set_option linter.unusedSimpArgs false

/-- Every block outside S stands. -/
structure Keeps (S : Nat → Prop) (w w' : World) : Prop where
  os : w'.os = w.os
  tape : w'.tape = w.tape
  output : w'.output = w.output
  size : w.heap.size ≤ w'.heap.size
  block : ∀ k, k < w.heap.size → ¬ S k → w'.heap[k]? = w.heap[k]?

theorem Keeps.refl (S : Nat → Prop) (w : World) : Keeps S w w := ⟨rfl, rfl, rfl, Nat.le_refl _, fun _ _ _ => rfl⟩
theorem Keeps.trans {S : Nat → Prop} {a b c : World} (h : Keeps S a b) (k : Keeps S b c) : Keeps S a c :=
  ⟨k.os.trans h.os, k.tape.trans h.tape, k.output.trans h.output, Nat.le_trans h.size k.size, fun i hi hs => (k.block i (Nat.lt_of_lt_of_le hi h.size) hs).trans (h.block i hi hs)⟩
theorem Keeps.mono {S S' : Nat → Prop} {a b : World} (h : Keeps S a b) (hs : ∀ k, k < a.heap.size → S k → S' k) : Keeps S' a b :=
  ⟨h.os, h.tape, h.output, h.size, fun k hk hn => h.block k hk fun e => hn (hs k hk e)⟩
theorem Keeps.of_ext {S : Nat → Prop} {a b : World} (h : Ext a b) : Keeps S a b := ⟨h.os, h.tape, h.output, h.size, fun k hk _ => h.block k hk⟩
theorem Keeps.of_grown {a b : World} {row : Option Nat} (h : a.grownBy b row) : Keeps (fun k => row = some k) a b :=
  ⟨h.os, h.tape, h.output, h.size, fun k hk hn => h.block k hk fun e => hn e.symm⟩
theorem Keeps.setCell {S : Nat → Prop} {a b : World} (h : Keeps S a b) {p : Addr} (hp : S p.block) (v : Value) : Keeps S a (b.setCell p v) :=
  ⟨h.os, h.tape, h.output, by simpa using h.size, fun k hk hn => (heap_setCell_other b p k v (fun e => hn (e ▸ hp))).trans (h.block k hk hn)⟩
theorem Keeps.drewN {S : Nat → Prop} {a b : World} (h : Keeps S a b) (q : Nat) : Keeps S a (b.drewN q) := ⟨h.os, h.tape, h.output, h.size, h.block⟩
theorem Keeps.ext {S : Nat → Prop} {a b : World} (h : Keeps S a b) (hs : ∀ k, k < a.heap.size → ¬ S k) : Ext a b := ⟨h.os, h.tape, h.output, h.size, fun k hk => h.block k hk (hs k hk)⟩
theorem Keeps.cell {S : Nat → Prop} {a b : World} (h : Keeps S a b) {p : Addr} {v : Value} (hs : ¬ S p.block) (hc : a.cell? p = some v) : b.cell? p = some v := by
  have hlt := lt_of_cell hc
  have := h.block _ hlt hs
  rw [← hc]
  unfold World.cell?
  rw [this]
theorem Keeps.own {S : Nat → Prop} {a b : World} (h : Keeps S a b) {base : Nat} {e : TypeId} {size n : Nat} {v : Value} {cs : List Value} (ho : a.ownsRow base e size v n cs) (hs : ∀ g, v.ownBlock = some g → ¬ S g) : b.ownsRow base e size v n cs := by
  cases hv : v.ownBlock with
  | none =>
    rcases ho.2 with h0 | ⟨g, cap, cur, rfl, _⟩
    · exact ⟨ho.1, .inl h0⟩
    · simp [Value.ownBlock] at hv
  | some g =>
    rcases ho.2 with h0 | ⟨g', cap, cur, rfl, hb, hg, hr⟩
    · exact ⟨ho.1, .inl h0⟩
    · simp only [Value.ownBlock, Option.some.injEq] at hv
      subst hv
      have hlt : g' < a.heap.size := (Array.getElem?_eq_some_iff.1 hg).1
      exact ⟨ho.1, .inr ⟨g', cap, cur, rfl, hb, (h.block g' hlt (hs g' rfl)).trans hg, hr⟩⟩

theorem Keeps.below {S : Nat → Prop} {w0 a b : World} (hx : Ext w0 a) (h : Keeps S a b) (hs : ∀ k, k < w0.heap.size → ¬ S k) : Ext w0 b :=
  ⟨h.os.trans hx.os, h.tape.trans hx.tape, h.output.trans hx.output, Nat.le_trans hx.size h.size, fun k hk => (h.block k (Nat.lt_of_lt_of_le hk hx.size) (hs k hk)).trans (hx.block k hk)⟩

theorem Keeps.frozen {S : Nat → Prop} {a b : World} (h : Keeps S a b) {p : Addr} (hl : p.block < a.heap.size) (hs : ¬ S p.block) : b.frozen? p = a.frozen? p := World.frozen?_of_block (h.block _ hl hs)
theorem Keeps.set (w : World) (p : Addr) (v : Value) : Keeps (fun b => b = p.block) w (w.setCell p v) := Keeps.setCell (S := fun b => b = p.block) (Keeps.refl _ w) (p := p) rfl _
end Go.Proofs.YtnpaikdaogikcaaGreatDoor
