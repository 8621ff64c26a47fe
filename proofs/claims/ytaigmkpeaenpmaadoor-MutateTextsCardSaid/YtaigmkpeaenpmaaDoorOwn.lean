/- Slices of the call's own, and what is appended to them: laws over any program. -/
import Derived.Test.YtaigmkpeaenpmaaDoorBase
namespace Go.Proofs.YtaigmkpeaenpmaaDoor
set_option maxRecDepth 100000
open Go.RowKit
set_option linter.unusedVariables false
set_option linter.unusedSimpArgs false

/-- A slice's cells, where it holds any. -/
def CellsAt (w : World) (A : Option Addr) (cs : List Value) : Prop :=
  cs ≠ [] → ∃ b o, A = some ⟨b, o, none⟩ ∧ ∀ k u, cs[k]? = some u → w.cell? ⟨b, o + k, none⟩ = some u
theorem CellsAt.ext {w w' : World} {A : Option Addr} {cs : List Value} (h : CellsAt w A cs) (hx : Ext w w') : CellsAt w' A cs := fun hn =>
  let ⟨b, o, e, hc⟩ := h hn
  ⟨b, o, e, fun k u hk => hx.cell' (hc k u hk)⟩
theorem CellsAt.nil (w : World) (A : Option Addr) : CellsAt w A [] := fun h => absurd rfl h

theorem CellsAt.at_ {w : World} {A : Option Addr} {cs : List Value} (h : CellsAt w A cs) {k : Nat} (hk : k < cs.length) :
    ∃ b o, A = some ⟨b, o, none⟩ ∧ w.cell? ⟨b, o + k, none⟩ = some cs[k] := by
  obtain ⟨b, o, e, hc⟩ := h (by rintro rfl; simp at hk)
  exact ⟨b, o, e, hc k _ (List.getElem?_eq_getElem hk)⟩

theorem CellsAt.take {w : World} {A : Option Addr} {cs : List Value} (h : CellsAt w A cs) (k : Nat) : CellsAt w A (cs.take k) := fun hn => by
  obtain ⟨b, o, e, hc⟩ := h (by rintro rfl; simp at hn)
  refine ⟨b, o, e, fun j u hj => hc j u ?_⟩
  rw [List.getElem?_take] at hj
  split at hj
  · exact hj
  · cases hj
theorem addr_add (b o k : Nat) : (⟨b, o, none⟩ : Addr).add k = ⟨b, o + k, none⟩ := by unfold Addr.add; split <;> simp_all
theorem CellsAt.drop {w : World} {A : Option Addr} {cs : List Value} (h : CellsAt w A cs) (k : Nat) : CellsAt w (A.map (·.add k)) (cs.drop k) := fun hn => by
  obtain ⟨b, o, rfl, hc⟩ := h (by rintro rfl; simp at hn)
  refine ⟨b, o + k, by rw [Option.map_some, addr_add], fun j u hj => ?_⟩
  rw [List.getElem?_drop] at hj
  rw [Nat.add_assoc]
  exact hc _ u hj
theorem CellsAt.cut {w : World} {A : Option Addr} {cs : List Value} (h : CellsAt w A cs) (k c : Nat) (hc : cs.length ≤ c) : CellsAt w (if c = k then A else A.map (·.add k)) (cs.drop k) := by
  by_cases e : c = k
  · rw [if_pos e, List.drop_of_length_le (by omega)]
    exact CellsAt.nil _ _
  · rw [if_neg e]; exact h.drop k
theorem cellsAt_new (w : World) (cs : List Value) (t : TypeId) : CellsAt (w.alloc (.cells cs.toArray t)) (some ⟨w.heap.size, 0, none⟩) cs := fun _ =>
  ⟨w.heap.size, 0, rfl, fun k u hk => by
    rw [Nat.zero_add, cell_of_row _ _ _ _ _ _ (heap_alloc_new w _)]
    simpa using hk⟩
theorem cellsAt_new2 (w : World) (o : Obj) (cs : List Value) (t : TypeId) : CellsAt ((w.alloc o).alloc (.cells cs.toArray t)) (some ⟨w.heap.size + 1, 0, none⟩) cs := by
  have := cellsAt_new (w.alloc o) cs t
  rwa [World.size_alloc] at this
theorem CellsAt.drew {w : World} {A : Option Addr} {cs : List Value} (h : CellsAt w A cs) : CellsAt w.drew A cs := h
theorem cellsAt_of_own {w : World} {base : Nat} {e : TypeId} {size n : Nat} {A : Option Addr} {c : Nat} {cs : List Value} (h : w.ownsRow base e size (.slice A n c) n cs) : CellsAt w A cs := by
  intro hne
  rcases h.2 with ⟨h1, h2⟩ | ⟨g, cap, cur, hv, _, _⟩
  · subst h2
    exact absurd (List.eq_nil_of_length_eq_zero (by simpa using h.1)) hne
  · injection hv with hA
    subst hA
    refine ⟨g, 0, rfl, fun k u hu => ?_⟩
    have := h.cells (g := g) rfl k u hu
    have ha : (⟨g, 0, none⟩ : Addr).add k = ⟨g, 0 + k, none⟩ := by unfold Addr.add; split <;> simp_all
    rwa [ha] at this

theorem ext_grown {w w' : World} {row : Option Nat} (h : w.grownBy w' row) (hr : ∀ k, row = some k → w.heap.size ≤ k) : Ext w w' :=
  ⟨h.os, h.tape, h.output, h.size, fun k hk => h.block k hk (fun e => by have := hr k e.symm; omega)⟩
theorem ext_grown_from {w0 w w' : World} {row : Option Nat} (hx : Ext w0 w) (h : w.grownBy w' row) (hr : ∀ k, row = some k → w0.heap.size ≤ k) : Ext w0 w' :=
  Below.grown hx h hx.size hr

theorem own_form {w : World} {base : Nat} {e : TypeId} {size n : Nat} {v : Value} {cs : List Value} (h : w.ownsRow base e size v n cs) : ∃ A c, v = .slice A n c := by
  rcases h.2 with ⟨rfl, rfl⟩ | ⟨g, cap, cur, rfl, _⟩
  · exact ⟨_, _, rfl⟩
  · exact ⟨_, _, rfl⟩
theorem own_ext {w w' : World} {base : Nat} {e : TypeId} {size n : Nat} {v : Value} {cs : List Value} (h : w.ownsRow base e size v n cs) (hx : Ext w w') : w'.ownsRow base e size v n cs :=
  h.kept (row := none) ⟨hx.os, hx.tape, hx.output, hx.size, fun k hk _ => hx.block k hk⟩ (by cases v.ownBlock <;> simp)
theorem own_empty (w : World) (e : TypeId) (size : Nat) : (w.alloc (.cells #[] e)).ownsRow w.heap.size e size (.slice (some ⟨w.heap.size, 0, none⟩) 0 0) 0 [] :=
  World.ownsRow_made w #[] 0 (Nat.le_refl _) (by unfold maxLen; omega) (by simp)
theorem own_mono {w : World} {base base' : Nat} {e : TypeId} {size n : Nat} {v : Value} {cs : List Value} (h : w.ownsRow base e size v n cs) (hb : base' ≤ base) : w.ownsRow base' e size v n cs :=
  ⟨h.1, h.2.imp id fun ⟨g, cap, cur, h1, h2, h3⟩ => ⟨g, cap, cur, h1, Nat.le_trans hb h2, h3⟩⟩
theorem own_some {w : World} {base : Nat} {e : TypeId} {size n : Nat} {v : Value} {cs : List Value} {g0 : Nat} (h : w.ownsRow base e size v n cs) (hb : v.ownBlock = some g0) :
    ∃ c, v = .slice (some ⟨g0, 0, none⟩) n c := by
  rcases h.2 with ⟨rfl, rfl⟩ | ⟨g, cap, cur, rfl, _⟩
  · simp [Value.ownBlock] at hb
  · simp [Value.ownBlock] at hb; subst hb; exact ⟨_, rfl⟩

def I64 (x : Int) : Value := .int .i64 x
theorem oneCells_I64 (xs : List Int) : ∀ u ∈ xs.map I64, u.oneCell' = true := by
  intro u hu
  obtain ⟨x, _, rfl⟩ := List.mem_map.1 hu
  rfl
theorem IS_of_cells {w : World} {A : Option Addr} {xs : List Int} (h : CellsAt w A (xs.map I64)) :
    xs ≠ [] → ∃ b o, A = some ⟨b, o, none⟩ ∧ ∀ k, k < xs.length → w.cell? ⟨b, o + k, none⟩ = some (.int .i64 (xs[k]?.getD 0)) := fun hn => by
  obtain ⟨b, o, e, hc⟩ := h (by simpa using hn)
  refine ⟨b, o, e, fun k hk => hc k _ ?_⟩
  rw [List.getElem?_map, List.getElem?_eq_getElem hk]; rfl
theorem cells_of_IS {w : World} {A : Option Addr} {xs : List Int}
    (h : xs ≠ [] → ∃ b o, A = some ⟨b, o, none⟩ ∧ ∀ k, k < xs.length → w.cell? ⟨b, o + k, none⟩ = some (.int .i64 (xs[k]?.getD 0))) : CellsAt w A (xs.map I64) := fun hn => by
  obtain ⟨b, o, e, hc⟩ := h (by simpa using hn)
  refine ⟨b, o, e, fun k u hu => ?_⟩
  rw [List.getElem?_map] at hu
  cases hk : xs[k]? with
  | none => rw [hk] at hu; simp at hu
  | some x =>
    rw [hk] at hu
    have hlt := (List.getElem?_eq_some_iff.1 hk).1
    have := hc k hlt
    rw [hk] at this
    simp at hu
    rw [this, ← hu]; rfl

section
variable {P : Program} (w : World)

theorem run_append_of_none (base : Nat) (t ty e : TypeId) (i : TypeInfo) (size : Nat) (ht : P.underlying t = some (.slice e)) (hi : P.info? e = some i)
    (v : Value) (n : Nat) (xs : List Value) (hown : w.ownsRow base e size v n xs) (A : Option Addr) (c : Nat) : (Builtin.append_ #[t, t] ty #[v, .slice A 0 c]).run P w = .ok v w := by
  rcases hown.2 with ⟨rfl, rfl⟩ | ⟨g, cap, cur, rfl, _, _, hnc, _⟩ <;> cases A <;>
    simp [Builtin.append_, run_underlying ht, sizeOf, typeInfo, hi, Builtin.lenOf, Builtin.firstCells, storeCells, loadCells, loadCellsFrom, *]

theorem run_append_src (base : Nat) (t ty e : TypeId) (i : TypeInfo) (z : Value) (size bytes : Nat) (ht : P.underlying t = some (.slice e)) (hi : P.info? e = some i) (hz : i.zero = some z)
    (hsize : i.size = size) (hby : i.bytes = bytes) (hzs : z.cells.size = size) (hsz : 0 < size)
    (v : Value) (n : Nat) (xs : List Value) (hown : w.ownsRow base e size v n xs)
    (A : Option Addr) (m c : Nat) (news : List Value) (hl : news.length = m * size) (hr : CellsAt w A news) (h1 : ∀ u ∈ news, u.oneCell' = true)
    (hbytes : (n + m) * bytes ≤ 140737488355328) (h63 : n + m ≤ maxLen) (hbase : base ≤ w.heap.size) :
    ∃ v' w', (Builtin.append_ #[t, t] ty #[v, .slice A m c]).run P w = .ok v' w' ∧ w'.ownsRow base e size v' (n + m) (xs ++ news) ∧ w.grownBy w' v.ownBlock ∧
      (v'.ownBlock = v.ownBlock ∨ v'.ownBlock = some w.heap.size) := by
  by_cases hm : m = 0
  · subst hm
    have hn : news = [] := List.eq_nil_of_length_eq_zero (by simpa using hl)
    subst hn
    exact ⟨v, w, run_append_of_none w base t ty e i size ht hi v n xs hown A c, by simpa using hown, World.grownBy.refl w _, .inl rfl⟩
  · have hne : news ≠ [] := by
      rintro rfl
      have : 0 < m * size := Nat.mul_pos (by omega) hsz
      simp at hl; omega
    obtain ⟨b, o, rfl, hc⟩ := hr hne
    have hcells : ∀ j u, news[j]? = some u → w.cell? ((⟨b, o, none⟩ : Addr).add j) = some u := fun j u hu => by
      have ha : (⟨b, o, none⟩ : Addr).add j = ⟨b, o + j, none⟩ := by unfold Addr.add; split <;> simp_all
      rw [ha]; exact hc j u hu
    obtain ⟨v', w', hrun, h2, h3, _, h5⟩ := run_append_own_at (P := P) w base t ty e i z size bytes ht hi hz hsize hby hzs hsz v n xs hown ⟨b, o, none⟩ m c news hl hcells h1 h63 hbytes hbase
    exact ⟨v', w', hrun, h2, h3, h5⟩

theorem wp_append_src {o : Oper} {a : Act} {K : Act → World → Prop} {Q : Exit → Act → World → Prop} (s x : Operand) (t : TypeId)
    (ho : o.op = .call { callee := .builtin .append, args := #[s, x], argTypes := #[t, t] })
    (base : Nat) (e : TypeId) (i : TypeInfo) (z : Value) (size bytes : Nat) (ht : P.underlying t = some (.slice e)) (hi : P.info? e = some i) (hz : i.zero = some z)
    (hsize : i.size = size) (hby : i.bytes = bytes) (hzs : z.cells.size = size) (hsz : 0 < size)
    (v : Value) (n : Nat) (xs : List Value) (hs : a.eval s = v) (hown : w.ownsRow base e size v n xs)
    (A : Option Addr) (m c : Nat) (news : List Value) (hx : a.eval x = .slice A m c) (hl : news.length = m * size) (hr : CellsAt w A news) (h1 : ∀ u ∈ news, u.oneCell' = true)
    (hbytes : (n + m) * bytes ≤ 140737488355328) (h63 : n + m ≤ maxLen) (hbase : base ≤ w.heap.size)
    (h : ∀ v' w', w'.ownsRow base e size v' (n + m) (xs ++ news) → w.grownBy w' v.ownBlock → (v'.ownBlock = v.ownBlock ∨ v'.ownBlock = some w.heap.size) → K (a.put o.dst v') w') : o.wp P a w K Q := by
  obtain ⟨v', w', hrun, h2, h3, h4⟩ := run_append_src (P := P) w base t o.type e i z size bytes ht hi hz hsize hby hzs hsz v n xs hown A m c news hl hr h1 hbytes h63 hbase
  unfold Oper.wp execOp
  simp only [ho, resolve, invoke, builtin, Sem.run_bind, Sem.run_pure, Result.andThen_ok, List.map_toArray, List.map_cons, List.map_nil, hs, hx, hrun]
  exact h v' w' h2 h3 h4

theorem wpList_append_src {ops : Array Oper} {rest : List Oper} {o : Oper} {a : Act} {Q : Exit → Act → World → Prop} (hgd : o.guard = none) (s x : Operand) (t : TypeId)
    (ho : o.op = .call { callee := .builtin .append, args := #[s, x], argTypes := #[t, t] })
    (base : Nat) (e : TypeId) (i : TypeInfo) (z : Value) (size bytes : Nat) (ht : P.underlying t = some (.slice e)) (hi : P.info? e = some i) (hz : i.zero = some z)
    (hsize : i.size = size) (hby : i.bytes = bytes) (hzs : z.cells.size = size) (hsz : 0 < size)
    (v : Value) (n : Nat) (xs : List Value) (hs : a.eval s = v) (hown : w.ownsRow base e size v n xs)
    (A : Option Addr) (m c : Nat) (news : List Value) (hx : a.eval x = .slice A m c) (hl : news.length = m * size) (hr : CellsAt w A news) (h1 : ∀ u ∈ news, u.oneCell' = true)
    (hbytes : (n + m) * bytes ≤ 140737488355328) (h63 : n + m ≤ maxLen) (hbase : base ≤ w.heap.size)
    (h : ∀ v' w', w'.ownsRow base e size v' (n + m) (xs ++ news) → w.grownBy w' v.ownBlock → (v'.ownBlock = v.ownBlock ∨ v'.ownBlock = some w.heap.size) → wpList P ops Q rest (a.put o.dst v') w') : wpList P ops Q (o :: rest) a w :=
  wpList_plain hgd fun _ hK => wp_append_src w s x t ho base e i z size bytes ht hi hz hsize hby hzs hsz v n xs hs hown A m c news hx hl hr h1 hbytes h63 hbase fun v' w' h2 h3 h4 => hK _ _ (h v' w' h2 h3 h4)

/-- append(nil, make([]T, n)...) -/
theorem run_append_zeros_nil (t ti ty e : TypeId) (i : TypeInfo) (z : Value) {k kx : IntKind} (ht : P.underlying t = some (.slice e)) (hti : P.underlying ti = some (.int k)) (hi : P.info? e = some i) (hz : i.zero = some z)
    (hzs : z.cells.size = i.size) (hsz : 0 < i.size) (n : Nat) (hn : 0 < n) (hb : n * i.bytes ≤ 140737488355328) (h63 : n ≤ 140737488355328) :
    ∃ cap cur, (Builtin.append_ #[t, ti] ty #[.slice none 0 0, .int kx n]).run P w = .ok (.slice (some ⟨w.heap.size, 0, none⟩) n cap) (w.drew.alloc (.cells cur e)) ∧ n ≤ cap ∧ cap ≤ maxLen ∧ cur.size = cap * i.size := by
  have hw : IntKind.i64.wrap (n : Int) = n := by rw [IntKind.wrap_i64]; omega
  have hneg : ¬ ((n : Int) < 0) := by omega
  have hbig : ¬ (281474976710656 < (n : Int) * (i.bytes : Int)) := by
    rw [← Int.natCast_mul]; omega
  have h63' : ¬ (9223372036854775807 < (n : Int)) := by omega
  have hn0 : ¬ n = 0 := by omega
  have hsn : ¬ i.size = 0 := by omega
  have hns : ¬ (n * i.size = 0) := Nat.mul_ne_zero hn0 hsn
  have hfit := growslice_fits (old := 0) (need := n) (by omega) hb
  have h48 : ¬ (281474976710656 < Builtin.nextslicecap n 0 * i.bytes) := by omega
  have hge := grownCap_ge w n 0 e
  have hcm := grownCap_le_maxLen w n 0 e (by simp only [maxLen]; omega)
  refine ⟨grownCap w n 0 e, Builtin.zeroCells z.cells n ++ Builtin.zeroCells z.cells (grownCap w n 0 e - n), ?_, hge, hcm, ?_⟩
  · simp [Builtin.append_, run_underlying ht, run_underlying hti, sizeOf, typeInfo, zeroValue, hi, hz, asInt, asIntOf, hw, hneg, hbig, hn0, hsn, hns, h63', h48, Question.forced, newRow, grownCap, Builtin.firstCells]
  · simp only [Array.size_append, size_zeroCells, hzs, ← Nat.add_mul]
    congr 1
    omega

theorem wpList_append_zeros_nil {ops : Array Oper} {rest : List Oper} {o : Oper} {a : Act} {Q : Exit → Act → World → Prop} (hgd : o.guard = none) (s x : Operand) (t ti : TypeId)
    (ho : o.op = .call { callee := .builtin .append, args := #[s, x], argTypes := #[t, ti] })
    (e : TypeId) (i : TypeInfo) (z : Value) {k kx : IntKind} (ht : P.underlying t = some (.slice e)) (hti : P.underlying ti = some (.int k)) (hi : P.info? e = some i) (hz : i.zero = some z)
    (hzs : z.cells.size = i.size) (hsz : 0 < i.size) (n : Nat) (hn : 0 < n) (hb : n * i.bytes ≤ 140737488355328) (h63 : n ≤ 140737488355328)
    (hs : a.eval s = .slice none 0 0) (hx : a.eval x = .int kx n)
    (h : ∀ cap cur, n ≤ cap → cap ≤ maxLen → cur.size = cap * i.size → wpList P ops Q rest (a.put o.dst (.slice (some ⟨w.heap.size, 0, none⟩) n cap)) (w.drew.alloc (.cells cur e))) : wpList P ops Q (o :: rest) a w :=
  wpList_plain hgd fun K hK => by
    obtain ⟨cap, cur, hr, h1, h2, h3⟩ := run_append_zeros_nil (P := P) w t ti o.type e i z (kx := kx) ht hti hi hz hzs hsz n hn hb h63
    unfold Oper.wp execOp
    simp only [ho, resolve, invoke, builtin, Sem.run_bind, Sem.run_pure, Result.andThen_ok, List.map_toArray, List.map_cons, List.map_nil, hs, hx, hr]
    exact hK _ _ (h cap cur h1 h2 h3)

theorem setRow_new (cur cs : Array Value) (t : TypeId) : (w.alloc (.cells cur t)).setRow w.heap.size cs = w.alloc (.cells cs t) := by
  simp only [World.setRow, World.alloc]
  congr 1
  apply Array.ext_getElem?
  intro i
  rw [Array.getElem?_modify, Array.getElem?_push, Array.getElem?_push]
  by_cases h : w.heap.size = i
  · subst h; simp
  · rw [if_neg h, if_neg (fun e => h e.symm), if_neg (fun e => h e.symm)]

/-- A whole value of several cells into the block that has just been made for it. -/
theorem wpList_store_new {ops : Array Oper} {rest : List Oper} {o : Oper} {a : Act} {Q : Exit → Act → World → Prop} (hgd : o.guard = none) (ty : TypeId) (x v : Operand) (ho : o.op = .store ty x v) (hd : o.dst = none)
    (cur cs : Array Value) (t : TypeId) (hx : a.eval x = .pointer (some ⟨w.heap.size, 0, none⟩)) (hv : a.eval v = .agg cs) (hi : (P.info? ty).map (·.size) = some cs.size) (hcur : cur.size = cs.size)
    (h1 : ∀ u ∈ cs.toList, u.oneCell' = true) (h : wpList P ops Q rest a (w.alloc (.cells cs t))) : wpList P ops Q (o :: rest) a (w.alloc (.cells cur t)) :=
  wpList_plain hgd fun K hK => by
    obtain ⟨i, hq, hs⟩ := Option.map_eq_some_iff.1 hi
    have hg : (w.alloc (.cells cur t)).heap[w.heap.size]? = some (.cells cur t (0, 0)) := heap_alloc_new w _
    have hst := run_storeCells_at (P := P) w.heap.size 0 t cs.toList 0 cur (w.alloc (.cells cur t)) hg (by simp [hcur]) h1
    have e : (cur.toList.take (0 + 0) ++ cs.toList ++ cur.toList.drop (0 + 0 + cs.toList.length)).toArray = cs := by
      have hd : List.drop cs.size cur.toList = [] := List.drop_of_length_le (by simp [hcur])
      simp [hd]
    rw [e, setRow_new] at hst
    unfold Oper.wp execOp
    have hc : (Value.agg cs).cells = cs := rfl
    have hsz : ∀ w' : World, (sizeOf ty).run P w' = .ok cs.size w' := fun w' => by simp [sizeOf, typeInfo, hq, hs]
    simp only [ho, hx, hv, Instr.storeAt, Instr.sureAddr, storeVar, Sem.run_bind, Sem.run_pure, Result.andThen_ok, hsz, hc, ne_eq, not_true_eq_false, if_false, hst]
    have := hK a _ h
    simpa [Oper.upon, hd, Act.put] using this

/-- append(out, x): one element of one cell. -/
theorem wpList_append_one {ops : Array Oper} {rest : List Oper} {o : Oper} {a : Act} {Q : Exit → Act → World → Prop} (hgd : o.guard = none) (s x : Operand) (t : TypeId)
    (ho : o.op = .call { callee := .builtin .append, args := #[s, x], argTypes := #[t, t] })
    (base : Nat) (e : TypeId) (i : TypeInfo) (z : Value) (bytes : Nat) (ht : P.underlying t = some (.slice e)) (hi : P.info? e = some i) (hz : i.zero = some z)
    (hsize : i.size = 1) (hby : i.bytes = bytes) (hzs : z.cells.size = 1)
    (v : Value) (n : Nat) (us : List Value) (hs : a.eval s = v) (hown : w.ownsRow base e 1 v n us)
    (c : Value) (h1 : c.oneCell' = true) (hx : a.eval x = .slice (some ⟨w.heap.size, 0, none⟩) 1 1)
    (hbytes : (n + 1) * bytes ≤ 140737488355328) (h63 : n + 1 ≤ maxLen) (hbase : base ≤ w.heap.size)
    (h : ∀ v' w', w'.ownsRow base e 1 v' (n + 1) (us ++ [c]) → w.grownBy w' v.ownBlock → wpList P ops Q rest (a.put o.dst v') w') : wpList P ops Q (o :: rest) a (w.alloc (.cells #[c] e)) :=
  wpList_append_src (w.alloc (.cells #[c] e)) hgd s x t ho base e i z 1 bytes ht hi hz hsize hby hzs (by omega) v n us hs (hown.alloc _) _ 1 1 [c] hx (by simp) (cellsAt_new w [c] e)
    (by intro u hu; simp only [List.mem_singleton] at hu; subst hu; exact h1) hbytes h63 (by simp; omega)
    fun v' w' h2 h3 _ => h v' w' h2 ((World.grownBy_alloc w _ _).trans h3)

end
end Go.Proofs.YtaigmkpeaenpmaaDoor
