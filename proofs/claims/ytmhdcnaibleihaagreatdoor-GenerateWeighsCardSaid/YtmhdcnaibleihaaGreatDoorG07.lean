/- Structs and rows that are stored whole, the worlds behind them as letters. -/
import Derived.Test.YtmhdcnaibleihaaGreatDoorG02
import Derived.Test.YtmhdcnaibleihaaGreatDoorG06
import Derived.Deep.MidRow
import Derived.Great.BuildSlice

namespace Go.Proofs.YtmhdcnaibleihaaGreatDoor
set_option maxRecDepth 100000
open Go.RowKit
set_option linter.unusedVariables false
set_option linter.unusedSimpArgs false

section
variable {P : Program}
/-- A whole struct into the block that was just made for it: the world as a letter. -/
theorem wpList_new {w : World} {ops : Array Oper} {rest : List Oper} {o : Oper} {a : Act} {Q : Exit → Act → World → Prop} (hgd : o.guard = none) (ty : TypeId) (x v : Operand) (ho : o.op = .store ty x v) (hd : o.dst = none)
    (cur cs : Array Value) (t : TypeId) (hx : a.eval x = .pointer (some ⟨w.heap.size, 0, none⟩)) (hv : a.eval v = .agg cs) (hi : (P.info? ty).map (·.size) = some cs.size) (hcur : cur.size = cs.size)
    (h1 : ∀ u ∈ cs.toList, u.oneCell' = true) (h : ∀ w', Hid (Ext w w') → Hid (Blk w' w.heap.size cs t) → wpList P ops Q rest a w') : wpList P ops Q (o :: rest) a (w.alloc (.cells cur t)) :=
  wpList_store_new w hgd ty x v ho hd cur cs t hx hv hi hcur h1 (h _ (Lib.hid ((Ext.refl' w).alloc' _)) (Lib.hid (Blk.new w cs t)))
/-- A whole struct out of a block that is known whole. -/
theorem wpList_load_blk {ops : Array Oper} {rest : List Oper} {o : Oper} {a : Act} {w : World} {Q : Exit → Act → World → Prop} (hgd : o.guard = none) (ty : TypeId) (x : Operand) (ho : o.op = .load ty x)
    (b : Nat) (cs : Array Value) (t : TypeId) (hb : Blk w b cs t) (hx : a.eval x = .pointer (some ⟨b, 0, none⟩)) (d : TypeDesc) (hu : P.underlying ty = some d) (hd : d.isRow = true) (hi : (P.info? ty).map (·.size) = some cs.size)
    (h : wpList P ops Q rest (a.put o.dst (.agg cs)) w) : wpList P ops Q (o :: rest) a w := by
  refine wpList_load_mid hgd ty x ho b 0 hx cs.toList d (fun j v hv => ?_) hu hd (by rw [hi]; simp) (by simpa using h)
  rw [Nat.zero_add, hb.cell]; simpa using hv
theorem fill_rows {s : Nat} (hs : 0 < s) (rows : List (List Value)) (cells : Array Value) (hr : ∀ r ∈ rows, r.length = s) (hn : rows.length * s = cells.size) :
    Instr.fill (fun i => some (i * s, s)) cells (((rows.map fun r => Value.agg r.toArray).zipIdx 0).map fun x => (x.2, x.1)) = some rows.flatten.toArray := by
  have hv : ∀ v ∈ rows.map (fun r => Value.agg r.toArray), v.cells.size = s := by
    intro v hv
    obtain ⟨r, hm, rfl⟩ := List.mem_map.1 hv
    show r.toArray.size = s
    simpa using hr r hm
  obtain ⟨r, h1, h2, h3⟩ := Great.fill_dense hs (rows.map fun r => Value.agg r.toArray) 0 cells hv (by simp; omega)
  rw [h1]
  congr 1
  apply Array.ext_getElem?
  intro k
  have hf := Great.flat_get hs (rows.map fun r => Value.agg r.toArray) hv k
  have he : ((rows.map fun r => Value.agg r.toArray).flatMap fun v => v.cells.toList) = rows.flatten := by
    rw [List.flatMap_map]
    show rows.flatMap (fun r => r.toArray.toList) = _
    simp [List.flatMap_def]
  rw [he] at hf
  rw [h3 k, show rows.flatten.toArray[k]? = rows.flatten[k]? from by simp, hf]
  by_cases hk : k < rows.length * s
  · rw [if_pos ⟨by omega, by simpa using hk⟩, Nat.sub_zero]
  · rw [if_neg (by simp; omega), Array.getElem?_eq_none (by omega), List.getElem?_eq_none]
    · rfl
    · simp
      exact (Nat.le_div_iff_mul_le hs).2 (by omega)
/-- A slice that is built of whole structs. -/
theorem wpList_rows {w : World} {ops : Array Oper} {rest : List Oper} {o : Oper} {a : Act} {Q : Exit → Act → World → Prop} (hgd : o.guard = none) (t e : TypeId) (len : Nat) (parts : Array (Nat × Operand)) (ho : o.op = .buildSlice t len parts)
    (rows : List (List Value)) (k : Nat) (hk : 0 < k) (hr : ∀ r ∈ rows, r.length = k) (hl : rows.length = len) (hpos : 0 < len) (hsm : len * k ≤ 1000)
    (hp : parts.toList.map (fun x => (x.1, a.eval x.2)) = ((rows.map fun r => Value.agg r.toArray).zipIdx 0).map fun x => (x.2, x.1))
    (hu : P.underlying t = some (.slice e)) (hi : (P.info? e).map (fun i => (i.zero.isSome, i.size)) = some (true, k))
    (h : ∀ w', Hid (Ext w w') → Hid (Blk w' w.heap.size rows.flatten.toArray e) → wpList P ops Q rest (a.put o.dst (.slice (some ⟨w.heap.size, 0, none⟩) len len)) w') : wpList P ops Q (o :: rest) a w := by
  obtain ⟨i, hq, hs'⟩ := Option.map_eq_some_iff.1 hi
  simp only [Prod.mk.injEq] at hs'
  obtain ⟨hz, hsz⟩ := hs'
  obtain ⟨z, hzz⟩ := Option.isSome_iff_exists.1 hz
  have hlk : 0 < len * k := Nat.mul_pos hpos hk
  refine wpList_buildSlice hgd t e len parts ho rows.flatten.toArray i z hu hq hzz (by rw [hsz]; omega) (by rw [hsz]; omega) ?_ (h _ (Lib.hid ((Ext.refl' w).alloc' _)) (Lib.hid (Blk.new w _ e)))
  rw [show (parts.map fun (i, x) => (i, a.eval x)).toList = parts.toList.map (fun x => (x.1, a.eval x.2)) from Array.toList_map .., hp, hsz]
  exact fill_rows hk rows _ hr (by simp [hl])
end
/-- A row that lies in a block of its own. -/
theorem Blk.from_ {w : World} {b : Nat} {cs : List Value} {t : TypeId} (h : Blk w b cs.toArray t) : CellsFrom (fun q => q = b) w (some ⟨b, 0, none⟩) cs := fun _ => by
  refine ⟨b, 0, rfl, rfl, fun k u hk => ?_⟩
  rw [Nat.zero_add, h.cell]; simpa using hk
theorem Blk.range {w : World} {b : Nat} {cs : Array Value} {t : TypeId} (h : Blk w b cs t) (es : List Value) (o : Nat) (he : ∀ j v, es[j]? = some v → cs[o + j]? = some v) : w.rangeAt b o es := fun j v hv => by
  rw [h.cell]; exact he j v hv
end Go.Proofs.YtmhdcnaibleihaaGreatDoor

/- What a call answers that lies in a block of its own: kinds of answers, and how they are handed back. -/
namespace Go.Proofs.YtmhdcnaibleihaaGreatDoor
set_option maxRecDepth 100000
open Go.RowKit
set_option linter.unusedVariables false
set_option linter.unusedSimpArgs false

/-- Cells that mean something, wherever memory goes. -/
structure Kind (n : Nat) (A : (Nat → Prop) → World → Array Value → Prop) : Prop where
  size : ∀ {p w cs}, A p w cs → cs.size = n
  one : ∀ {p w cs}, A p w cs → ∀ u ∈ cs.toList, u.oneCell' = true
  move : ∀ {p q w w' cs}, (∀ B ds, CellsFrom p w B ds → CellsFrom q w' B ds) → A p w cs → A q w' cs
section
variable {n : Nat} {A : (Nat → Prop) → World → Array Value → Prop} (K : Kind n A) {p q S : Nat → Prop} {w w' w0 w1 : World} {cs z : Array Value} {t : TypeId}
include K
theorem Kind.on (h : A p w cs) (hx : Ext w w') : A p w' cs := K.move (fun _ _ h => h.ext hx) h
theorem Kind.keeps (h : A p w cs) (hx : Keeps S w w') (hs : ∀ b, p b → ¬ S b) : A p w' cs := K.move (fun _ _ h => h.keeps hx hs) h
theorem Kind.mono (h : A p w cs) (hg : ∀ b, p b → q b) : A q w cs := K.move (fun _ _ h => h.mono hg) h
theorem Kind.lt (h : A p w cs) : A (fun b => p b ∧ b < w.heap.size) w cs := K.move (fun _ _ h => h.lt) h
omit K
/-- The call's own block for what it answers. -/
structure Made (w0 w : World) (z : Array Value) (t : TypeId) : Prop where
  ext : Ext w0 w
  blk : Blk w w0.heap.size z t
theorem made (w : World) (z : Array Value) (t : TypeId) : Made w (w.alloc (.cells z t)) z t := ⟨(Ext.refl' w).alloc' _, Blk.new w _ _⟩
theorem Made.on (h : Made w0 w z t) (hx : Ext w w') : Made w0 w' z t := ⟨h.ext.trans' hx, h.blk.on hx⟩
theorem Made.lt (h : Made w0 w z t) : w0.heap.size < w.heap.size := h.blk.lt
theorem Made.keeps (h : Made w0 w z t) (hk : Keeps S w w') (hs : ∀ b, S b → w0.heap.size < b) : Made w0 w' z t :=
  ⟨Keeps.below h.ext hk fun k hk hS => by have := hs k hS; omega, h.blk.keeps hk fun hS => by have := hs _ hS; omega⟩
def Gives (A : (Nat → Prop) → World → Array Value → Prop) (w : World) (e : Ending) (w' : World) : Prop := (∃ cs, e = .returned (.agg cs) ∧ A (Fr w.heap.size) w' cs) ∧ Ext w w'
structure Given (A : (Nat → Prop) → World → Array Value → Prop) (n : Nat) (w0 w : World) (cs : Array Value) (t : TypeId) : Prop where
  ext : Ext w0 w
  blk : Blk w w0.heap.size cs t
  ans : A (Fr w0.heap.size) w cs
  size : cs.size = n
include K
theorem wpList_answer {P : Program} {ops : Array Oper} {rest : List Oper} {o : Oper} {a : Act} {Q : Exit → Act → World → Prop} (hgd : o.guard = none) (ty : TypeId) (x v : Operand) (ho : o.op = .store ty x v) (hd : o.dst = none)
    (hm : Hid (Made w0 w z t)) (hz : z.size = n) (hi : (P.info? ty).map (·.size) = some n) (ha : Hid (A q w cs)) (hq : Hid (∀ b, q b → w0.heap.size < b))
    (hx : a.eval x = .pointer (some ⟨w0.heap.size, 0, none⟩)) (hv : a.eval v = .agg cs) (h : ∀ w', Hid (Given A n w0 w' cs t) → wpList P ops Q rest a w') : wpList P ops Q (o :: rest) a w :=
  wpList_store_blk hgd ty x v ho hd w0.heap.size z cs t hm.out.blk hx hv (by rw [K.size ha.out]; exact hi) (by rw [hz, K.size ha.out]) (K.one ha.out) fun w' HB HK =>
    h w' (Lib.hid ⟨Keeps.below hm.out.ext HK.out (fun k hk e => by omega), HB.out, K.mono (K.keeps ha.out HK.out fun b hb e => by have := hq.out b hb; omega) fun b hb => Nat.le_of_lt (hq.out b hb), K.size ha.out⟩)
omit K
theorem Given.fin {P : Program} {fn : Func} {R : Ending → World → Prop} {a : Act} {x : Tmp} {ty : TypeId} (hG : Hid (Given A n w0 w cs t)) (hR : Hid (∀ e w', Gives A w0 e w' → R e w')) (h : fn.results = #[.cell x ty]) (hv : a.tmps.getD x undef = .pointer (some ⟨w0.heap.size, 0, none⟩))
    (d : TypeDesc) (hu : P.underlying ty = some d) (hd : (match d with | .struct _ | .array _ _ => true | _ => false) = true) (hi : (P.info? ty).map (·.size) = some n) (hdf : a.defers = []) : bodyPost P fn R .ret a w :=
  bodyPost_ret (results_cell h hG.out.blk hv d hu hd (by rw [hG.out.size]; exact hi)) hdf (hR.out _ _ ⟨⟨_, rfl, hG.out.ans⟩, hG.out.ext⟩)
end
theorem fr_lt {w0 w : World} {z : Array Value} {t : TypeId} (h : Hid (Made w0 w z t)) {w' : World} (hx : w.heap.size ≤ w'.heap.size) : Hid (∀ b, Fr w'.heap.size b → w0.heap.size < b) := Lib.hid fun b hb => by
  have h1 := h.out.lt; have h2 : w'.heap.size ≤ b := hb; omega
theorem made_call {w0 w w1 w2 : World} {z : Array Value} {t : TypeId} (h : Hid (Made w0 w z t)) (hm : Ext w w1) (hx : Ext w1 w2) : Hid (Made w0 w2 z t) ∧ Hid (∀ b, Fr w1.heap.size b → w0.heap.size < b) :=
  ⟨Lib.hid ((h.out.on hm).on hx), fr_lt h hm.size⟩
theorem ext_al (w : World) (o : Obj) : Ext w (w.alloc o) := (Ext.refl' w).alloc' o
end Go.Proofs.YtmhdcnaibleihaaGreatDoor

/- append(out, x) of one whole struct, onto a row that the call makes: what was read of the others stays. -/
namespace Go.Proofs.YtmhdcnaibleihaaGreatDoor
set_option maxRecDepth 100000
open Go.RowKit
set_option linter.unusedVariables false
set_option linter.unusedSimpArgs false

structure Moves {α : Type} (R : (Nat → Prop) → World → α → List Value → Prop) : Prop where
  mv : ∀ (p q : Nat → Prop) (w w' : World) (x : α) (cs : List Value), (∀ B ds, CellsFrom p w B ds → CellsFrom q w' B ds) → R p w x cs → R q w' x cs
theorem movesE : Moves RdE := ⟨fun _ _ _ _ _ _ h r => RdE.move h _ _ r⟩
theorem movesT : Moves RdT := ⟨fun _ _ _ _ _ _ h r => RdT.move h _ _ r⟩
/-- A row that the call makes: whatever lies behind its elements lies elsewhere. -/
structure RowOf {α : Type} (R : (Nat → Prop) → World → α → List Value → Prop) (e : TypeId) (k : Nat) (base : Nat) (w : World) (v : Value) (l : List α) (ics : List (List Value)) : Prop where
  own : w.ownsRow base e k v l.length ics.flatten
  all : All2 (R (fun b => base ≤ b ∧ v.ownBlock ≠ some b) w) l ics
section
variable {α : Type} {R : (Nat → Prop) → World → α → List Value → Prop} {e : TypeId} {k base : Nat} {w w' : World} {v : Value} {l : List α} {ics : List (List Value)}
theorem RowOf.nil (R : (Nat → Prop) → World → α → List Value → Prop) (e : TypeId) (k base : Nat) (w : World) : RowOf R e k base w (.slice none 0 0) [] [] := ⟨⟨by simp, .inl ⟨rfl, rfl⟩⟩, .nil⟩
theorem RowOf.keeps (M : Moves R) (h : RowOf R e k base w v l ics) {S : Nat → Prop} (hx : Keeps S w w') (hs : ∀ b, base ≤ b → ¬ S b) : RowOf R e k base w' v l ics :=
  ⟨hx.own h.own fun g hg => hs g (h.own.lt g hg).1, h.all.imp fun _ _ hr => M.mv _ _ _ _ _ _ (fun B ds hc => hc.keeps hx fun b hb => hs b hb.1) hr⟩
theorem RowOf.on (M : Moves R) (h : RowOf R e k base w v l ics) (hx : Ext w w') : RowOf R e k base w' v l ics := h.keeps M (Keeps.of_ext (S := fun _ => False) hx) fun _ _ h => h
theorem RowOf.form (h : RowOf R e k base w v l ics) : ∃ A c, v = .slice A l.length c := own_form h.own
theorem RowOf.cells {A : Option Addr} {c : Nat} (h : RowOf R e k base w (.slice A l.length c) l ics) : CellsFrom (Fr base) w A ics.flatten := cellsFrom_own h.own
theorem RowOf.reads (M : Moves R) (h : RowOf R e k base w v l ics) : All2 (R (Fr base) w) l ics := h.all.imp fun _ _ hr => M.mv _ _ _ _ _ _ (fun B ds hc => hc.mono fun b hb => hb.1) hr
theorem RowOf.cap {A : Option Addr} {n c : Nat} (h : RowOf R e k base w (.slice A n c) l ics) : l.length ≤ c := by
  rcases h.own.2 with ⟨h1, h2⟩ | ⟨g, cap, cur, h1, _, _, h2, _⟩
  · omega
  · injection h1 with _ _ h3; omega
theorem wpList_pushB {P : Program} {ops : Array Oper} {rest : List Oper} {o : Oper} {a : Act} {Q : Exit → Act → World → Prop} (hgd : o.guard = none) (s x : Operand) (t : TypeId)
    (ho : o.op = .call { callee := .builtin .append, args := #[s, x], argTypes := #[t, t] })
    (base : Nat) (e : TypeId) (z : Value) (k bytes : Nat) (ht : P.underlying t = some (.slice e)) (hi : (P.info? e).map (fun i => (i.zero, i.size, i.bytes)) = some (some z, k, bytes))
    (hzs : z.cells.size = k) (hk : 0 < k) (cs : Array Value) (hcs : cs.size = k) (v : Value) (n : Nat) (us : List Value) (hs : a.eval s = v) (hown : w.ownsRow base e k v n us)
    (h1 : ∀ u ∈ cs.toList, u.oneCell' = true) (hx : a.eval x = .slice (some ⟨w.heap.size, 0, none⟩) 1 1) (hn : n ≤ 1000000) (hb : bytes ≤ 100000) (hX : base ≤ w.heap.size)
    (h : ∀ v' w', Hid (w'.ownsRow base e k v' (n + 1) (us ++ cs.toList)) → Hid (Push w v w' v') → wpList P ops Q rest (a.put o.dst v') w') : wpList P ops Q (o :: rest) a (w.alloc (.cells cs e)) := by
  obtain ⟨i, hq, hs'⟩ := Option.map_eq_some_iff.1 hi
  simp only [Prod.mk.injEq] at hs'
  obtain ⟨hz, hsz, hby⟩ := hs'
  have hnb : (n + 1) * bytes ≤ 140737488355328 := by
    have := Nat.mul_le_mul (show n + 1 ≤ 1000001 by omega) hb
    omega
  refine wpList_append_src (w.alloc (.cells cs e)) hgd s x t ho base e i z k bytes ht hq hz hsz hby hzs hk v n us hs (hown.alloc _) _ 1 1 cs.toList hx (by simp [hcs]) ?_ h1 hnb (by unfold maxLen; omega) (by simp; omega) ?_
  · have := cellsAt_new w cs.toList e
    simpa using this
  · intro v' w' h2 h3 h4
    exact h v' w' (Lib.hid h2) (Lib.hid ⟨(World.grownBy_alloc w _ _).trans h3, h4.imp id fun e => ⟨_, e, by simp⟩⟩)
theorem wpList_grow {P : Program} (M : Moves R) {ops : Array Oper} {rest : List Oper} {o : Oper} {a : Act} {Q : Exit → Act → World → Prop} (hgd : o.guard = none) (s x : Operand) (t : TypeId)
    (ho : o.op = .call { callee := .builtin .append, args := #[s, x], argTypes := #[t, t] })
    (z : Value) (bytes : Nat) (ht : P.underlying t = some (.slice e)) (hi : (P.info? e).map (fun i => (i.zero, i.size, i.bytes)) = some (some z, k, bytes))
    (hzs : z.cells.size = k) (hk : 0 < k) (cs : List Value) (hcs : cs.toArray.size = k) (y : α) (hs : a.eval s = v) (hrow : Hid (RowOf R e k base w v l ics)) (hy : Hid (R (fun b => base ≤ b ∧ v.ownBlock ≠ some b) w y cs))
    (h1 : ∀ u ∈ cs.toArray.toList, u.oneCell' = true) (hx : a.eval x = .slice (some ⟨w.heap.size, 0, none⟩) 1 1) (hn : l.length ≤ 1000000) (hb : bytes ≤ 100000) (hX : base ≤ w.heap.size)
    (h : ∀ v' w', Hid (RowOf R e k base w' v' (l ++ [y]) (ics ++ [cs])) → Hid (Push w v w' v') → wpList P ops Q rest (a.put o.dst v') w') : wpList P ops Q (o :: rest) a (w.alloc (.cells cs.toArray e)) := by
  refine wpList_pushB hgd s x t ho base e z k bytes ht hi hzs hk cs.toArray hcs v l.length ics.flatten hs hrow.out.own h1 hx hn hb hX fun v' w' HO HP => h v' w' (Lib.hid ⟨?_, ?_⟩) HP
  · have := HO.out; simpa using this
  · have mv : ∀ {x : α} {c : List Value}, R (fun b => base ≤ b ∧ v.ownBlock ≠ some b) w x c → R (fun b => base ≤ b ∧ v'.ownBlock ≠ some b) w' x c := fun hr =>
      M.mv _ _ _ _ _ _ (fun B ds hc => ((hc.lt.keeps (Keeps.of_grown HP.out.grown) fun b hb e => hb.1.2 e).mono fun b hb => ⟨hb.1.1, HP.out.apart hb.2 hb.1.2⟩)) hr
    exact (hrow.out.all.imp fun _ _ hr => mv hr).append (.cons (mv hy.out) .nil)
end
end Go.Proofs.YtmhdcnaibleihaaGreatDoor
