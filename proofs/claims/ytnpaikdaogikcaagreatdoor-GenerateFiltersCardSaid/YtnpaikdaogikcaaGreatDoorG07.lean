/- append(out, x): one element of any size, onto a slice that is the call's own. -/
import Derived.Test.YtnpaikdaogikcaaGreatDoorG01
import Derived.Laws.IdiomStrings
import Derived.Test.YtnpaikdaogikcaaGreatDoorG02
import Derived.Test.YtnpaikdaogikcaaGreatDoorG06
import Derived.Deep.MidRow
import Derived.Great.BuildSlice

namespace Go.Proofs.YtnpaikdaogikcaaGreatDoor
set_option maxRecDepth 100000
open Go.RowKit
set_option linter.unusedVariables false
set_option linter.unusedSimpArgs false

/-- What an append does: the row grows, or a new one is made. -/
structure Push (w : World) (v : Value) (w' : World) (v' : Value) : Prop where
  grown : w.grownBy w' v.ownBlock
  block : v'.ownBlock = v.ownBlock ∨ ∃ q, v'.ownBlock = some q ∧ w.heap.size ≤ q
theorem Push.apart {w w' : World} {v v' : Value} (h : Push w v w' v') {b : Nat} (hb : b < w.heap.size) (ha : v.ownBlock ≠ some b) : v'.ownBlock ≠ some b := by
  rcases h.block with e | ⟨q, e, hq⟩
  · rw [e]; exact ha
  · rw [e]; intro h; cases h; omega
theorem Push.cells {w w' : World} {v v' : Value} (h : Push w v w' v') {b o : Nat} {cs : List Value} (ha : v.ownBlock ≠ some b) (hc : CellsAt w (some ⟨b, o, none⟩) cs) : CellsAt w' (some ⟨b, o, none⟩) cs := fun hn => by
  obtain ⟨b', o', e, hb⟩ := hc hn
  cases e
  refine ⟨b, o, rfl, fun k u hk => ?_⟩
  have := hb k u hk
  rw [← this]
  exact h.grown.cell_far _ (lt_of_cell this) (fun e => ha e.symm)
theorem Push.cell {w w' : World} {v v' : Value} (h : Push w v w' v') {p : Addr} {u : Value} (ha : v.ownBlock ≠ some p.block) (hc : w.cell? p = some u) : w'.cell? p = some u := by
  rw [← hc]; exact h.grown.cell_far _ (lt_of_cell hc) (fun e => ha e.symm)
theorem Push.size {w w' : World} {v v' : Value} (h : Push w v w' v') : w.heap.size ≤ w'.heap.size := h.grown.size
section
variable {P : Program} (w : World)
theorem wpList_push {ops : Array Oper} {rest : List Oper} {o : Oper} {a : Act} {Q : Exit → Act → World → Prop} (hgd : o.guard = none) (s x : Operand) (t : TypeId)
    (ho : o.op = .call { callee := .builtin .append, args := #[s, x], argTypes := #[t, t] })
    (w0 : World) (e : TypeId) (z : Value) (k bytes : Nat) (ht : P.underlying t = some (.slice e)) (hi : (P.info? e).map (fun i => (i.zero, i.size, i.bytes)) = some (some z, k, bytes))
    (hzs : z.cells.size = k) (hk : 0 < k) (cs : Array Value) (hcs : cs.size = k)
    (v : Value) (n : Nat) (us : List Value) (hs : a.eval s = v) (hown : w.ownsRow w0.heap.size e k v n us)
    (h1 : ∀ u ∈ cs.toList, u.oneCell' = true) (hx : a.eval x = .slice (some ⟨w.heap.size, 0, none⟩) 1 1)
    (hn : n ≤ 1000000) (hb : bytes ≤ 100000) (hX : Ext w0 w)
    (h : ∀ v' w', Hid (w'.ownsRow w0.heap.size e k v' (n + 1) (us ++ cs.toList)) → Hid (Ext w0 w') → Hid (Push w v w' v') → wpList P ops Q rest (a.put o.dst v') w') : wpList P ops Q (o :: rest) a (w.alloc (.cells cs e)) := by
  obtain ⟨i, hq, hs'⟩ := Option.map_eq_some_iff.1 hi
  simp only [Prod.mk.injEq] at hs'
  obtain ⟨hz, hsz, hby⟩ := hs'
  have hnb : (n + 1) * bytes ≤ 140737488355328 := by
    have := Nat.mul_le_mul (show n + 1 ≤ 1000001 by omega) hb
    omega
  refine wpList_append_src (w.alloc (.cells cs e)) hgd s x t ho w0.heap.size e i z k bytes ht hq hz hsz hby hzs hk v n us hs (hown.alloc _) _ 1 1 cs.toList hx (by simp [hcs]) ?_ h1 hnb (by unfold maxLen; omega) (by simp; have := hX.size; omega) ?_
  · have := cellsAt_new w cs.toList e
    simpa using this
  · intro v' w' h2 h3 h4
    refine h v' w' (Lib.hid h2) (Lib.hid (ext_grown_from (hX.alloc' _) h3 fun g hg => (hown.lt g hg).1)) (Lib.hid ⟨(World.grownBy_alloc w _ _).trans h3, h4.imp id fun e => ⟨_, e, by simp⟩⟩)
end
theorem own_nil (w0 w : World) (e : TypeId) (k : Nat) : w.ownsRow w0.heap.size e k (.slice none 0 0) 0 [] := ⟨by simp, .inl ⟨rfl, rfl⟩⟩
/-- string(b) of bytes that are read. -/
theorem run_string_bytes {P : Program} (w : World) (src dst e : TypeId) (A : Option Addr) (cap : Nat) (l : List UInt8) (hs : P.underlying src = some (.slice e)) (he : P.underlying e = some (.int .u8)) (hd : P.underlying dst = some .string)
    (hc : CellsAt w A (l.map fun b => .int .u8 (b.toNat : Int))) :
    (convert src dst (.slice A l.length cap)).run P w = .ok (.string ⟨l.toArray⟩) w := by
  by_cases hl : l = []
  · subst hl
    cases A with
    | none => rw [run_convert_bytes_string w src dst e none _ cap hs he hd]; rfl
    | some a => exact run_convert_bytes_back w src dst e a cap [] hs he hd (fun j hj => by simp at hj)
  · obtain ⟨b, o, rfl, hb⟩ := hc (by simpa using hl)
    refine run_convert_bytes_back w src dst e _ cap l hs he hd fun j hj => ?_
    rw [addr_add]
    exact hb j _ (by rw [List.getElem?_map, List.getElem?_eq_getElem hj]; rfl)
end Go.Proofs.YtnpaikdaogikcaaGreatDoor

/- Structs and rows that are stored whole, the worlds behind them as letters. -/
namespace Go.Proofs.YtnpaikdaogikcaaGreatDoor
set_option maxRecDepth 100000
open Go.RowKit
set_option linter.unusedVariables false
set_option linter.unusedSimpArgs false

section
variable {P : Program}
/-- A whole struct into the block that was just made for it: the world as a letter. -/
theorem wpList_new {w : World} {ops : Array Oper} {rest : List Oper} {o : Oper} {a : Act} {Q : Exit → Act → World → Prop} (hgd : o.guard = none) (ty : TypeId) (x v : Operand) (ho : o.op = .store ty x v) (hd : o.dst = none)
    (cur cs : Array Value) (t : TypeId) (hx : a.eval x = .pointer (some ⟨w.heap.size, 0, none⟩)) (hv : a.eval v = .agg cs) (hi : (P.info? ty).map (·.size) = some cs.size) (hcur : cur.size = cs.size)
    (h1 : ∀ u ∈ cs.toList, u.oneCell' = true) (h : ∀ w', Hid (Ext w w') → Hid (Blk w' w.heap.size cs t) → wpList P ops Q rest a w') : wpList P ops Q (o :: rest) a (w.alloc (.cells cur t)) :=
  wpList_store_new w hgd ty x v ho hd cur cs t hx hv hi hcur h1 (h _ (Lib.hid ((Ext.refl' w).alloc' _)) (Lib.hid (Blk.new w cs t)))
/-- A whole struct out of a block that is known whole. -/
theorem wpList_load_blk {ops : Array Oper} {rest : List Oper} {o : Oper} {a : Act} {w : World} {Q : Exit → Act → World → Prop} (hgd : o.guard = none) (ty : TypeId) (x : Operand) (ho : o.op = .load ty x)
    (b : Nat) (cs : Array Value) (t : TypeId) (hb : Blk w b cs t) (hx : a.eval x = .pointer (some ⟨b, 0, none⟩)) (d : TypeDesc) (hu : P.underlying ty = some d) (hd : d.isRow = true) (hi : (P.info? ty).map (·.size) = some cs.size)
    (h : wpList P ops Q rest (a.put o.dst (.agg cs)) w) : wpList P ops Q (o :: rest) a w := by
  refine wpList_load_mid hgd ty x ho b 0 hx cs.toList d (fun j v hv => ?_) hu hd (by rw [hi]; simp) (by simpa using h)
  rw [Nat.zero_add, hb.cell]; simpa using hv
theorem fill_rows {s : Nat} (hs : 0 < s) (rows : List (List Value)) (cells : Array Value) (hr : ∀ r ∈ rows, r.length = s) (hn : rows.length * s = cells.size) :
    Instr.fill (fun i => some (i * s, s)) cells (((rows.map fun r => Value.agg r.toArray).zipIdx 0).map fun x => (x.2, x.1)) = some rows.flatten.toArray := by
  have hv : ∀ v ∈ rows.map (fun r => Value.agg r.toArray), v.cells.size = s := by
    intro v hv
    obtain ⟨r, hm, rfl⟩ := List.mem_map.1 hv
    show r.toArray.size = s
    simpa using hr r hm
  obtain ⟨r, h1, h2, h3⟩ := Great.fill_dense hs (rows.map fun r => Value.agg r.toArray) 0 cells hv (by simp; omega)
  rw [h1]
  congr 1
  apply Array.ext_getElem?
  intro k
  have hf := Great.flat_get hs (rows.map fun r => Value.agg r.toArray) hv k
  have he : ((rows.map fun r => Value.agg r.toArray).flatMap fun v => v.cells.toList) = rows.flatten := by
    rw [List.flatMap_map]
    show rows.flatMap (fun r => r.toArray.toList) = _
    simp [List.flatMap_def]
  rw [he] at hf
  rw [h3 k, show rows.flatten.toArray[k]? = rows.flatten[k]? from by simp, hf]
  by_cases hk : k < rows.length * s
  · rw [if_pos ⟨by omega, by simpa using hk⟩, Nat.sub_zero]
  · rw [if_neg (by simp; omega), Array.getElem?_eq_none (by omega), List.getElem?_eq_none]
    · rfl
    · simp
      exact (Nat.le_div_iff_mul_le hs).2 (by omega)
/-- A slice that is built of whole structs. -/
theorem wpList_rows {w : World} {ops : Array Oper} {rest : List Oper} {o : Oper} {a : Act} {Q : Exit → Act → World → Prop} (hgd : o.guard = none) (t e : TypeId) (len : Nat) (parts : Array (Nat × Operand)) (ho : o.op = .buildSlice t len parts)
    (rows : List (List Value)) (k : Nat) (hk : 0 < k) (hr : ∀ r ∈ rows, r.length = k) (hl : rows.length = len) (hpos : 0 < len) (hsm : len * k ≤ 1000)
    (hp : parts.toList.map (fun x => (x.1, a.eval x.2)) = ((rows.map fun r => Value.agg r.toArray).zipIdx 0).map fun x => (x.2, x.1))
    (hu : P.underlying t = some (.slice e)) (hi : (P.info? e).map (fun i => (i.zero.isSome, i.size)) = some (true, k))
    (h : ∀ w', Hid (Ext w w') → Hid (Blk w' w.heap.size rows.flatten.toArray e) → wpList P ops Q rest (a.put o.dst (.slice (some ⟨w.heap.size, 0, none⟩) len len)) w') : wpList P ops Q (o :: rest) a w := by
  obtain ⟨i, hq, hs'⟩ := Option.map_eq_some_iff.1 hi
  simp only [Prod.mk.injEq] at hs'
  obtain ⟨hz, hsz⟩ := hs'
  obtain ⟨z, hzz⟩ := Option.isSome_iff_exists.1 hz
  have hlk : 0 < len * k := Nat.mul_pos hpos hk
  refine wpList_buildSlice hgd t e len parts ho rows.flatten.toArray i z hu hq hzz (by rw [hsz]; omega) (by rw [hsz]; omega) ?_ (h _ (Lib.hid ((Ext.refl' w).alloc' _)) (Lib.hid (Blk.new w _ e)))
  rw [show (parts.map fun (i, x) => (i, a.eval x)).toList = parts.toList.map (fun x => (x.1, a.eval x.2)) from Array.toList_map .., hp, hsz]
  exact fill_rows hk rows _ hr (by simp [hl])
end
/-- A row that lies in a block of its own. -/
theorem Blk.from_ {w : World} {b : Nat} {cs : List Value} {t : TypeId} (h : Blk w b cs.toArray t) : CellsFrom (fun q => q = b) w (some ⟨b, 0, none⟩) cs := fun _ => by
  refine ⟨b, 0, rfl, rfl, fun k u hk => ?_⟩
  rw [Nat.zero_add, h.cell]; simpa using hk
theorem Blk.range {w : World} {b : Nat} {cs : Array Value} {t : TypeId} (h : Blk w b cs t) (es : List Value) (o : Nat) (he : ∀ j v, es[j]? = some v → cs[o + j]? = some v) : w.rangeAt b o es := fun j v hv => by
  rw [h.cell]; exact he j v hv
end Go.Proofs.YtnpaikdaogikcaaGreatDoor

/- What a call answers that lies in a block of its own: kinds of answers, and how they are handed back. -/
namespace Go.Proofs.YtnpaikdaogikcaaGreatDoor
set_option maxRecDepth 100000
open Go.RowKit
set_option linter.unusedVariables false
set_option linter.unusedSimpArgs false

/-- Cells that mean something, wherever memory goes. -/
structure Kind (n : Nat) (A : (Nat → Prop) → World → Array Value → Prop) : Prop where
  size : ∀ {p w cs}, A p w cs → cs.size = n
  one : ∀ {p w cs}, A p w cs → ∀ u ∈ cs.toList, u.oneCell' = true
  move : ∀ {p q w w' cs}, (∀ B ds, CellsFrom p w B ds → CellsFrom q w' B ds) → A p w cs → A q w' cs
section
variable {n : Nat} {A : (Nat → Prop) → World → Array Value → Prop} (K : Kind n A) {p q S : Nat → Prop} {w w' w0 w1 : World} {cs z : Array Value} {t : TypeId}
include K
theorem Kind.on (h : A p w cs) (hx : Ext w w') : A p w' cs := K.move (fun _ _ h => h.ext hx) h
theorem Kind.keeps (h : A p w cs) (hx : Keeps S w w') (hs : ∀ b, p b → ¬ S b) : A p w' cs := K.move (fun _ _ h => h.keeps hx hs) h
theorem Kind.mono (h : A p w cs) (hg : ∀ b, p b → q b) : A q w cs := K.move (fun _ _ h => h.mono hg) h
theorem Kind.lt (h : A p w cs) : A (fun b => p b ∧ b < w.heap.size) w cs := K.move (fun _ _ h => h.lt) h
omit K
/-- The call's own block for what it answers. -/
structure Made (w0 w : World) (z : Array Value) (t : TypeId) : Prop where
  ext : Ext w0 w
  blk : Blk w w0.heap.size z t
theorem made (w : World) (z : Array Value) (t : TypeId) : Made w (w.alloc (.cells z t)) z t := ⟨(Ext.refl' w).alloc' _, Blk.new w _ _⟩
theorem Made.on (h : Made w0 w z t) (hx : Ext w w') : Made w0 w' z t := ⟨h.ext.trans' hx, h.blk.on hx⟩
theorem Made.lt (h : Made w0 w z t) : w0.heap.size < w.heap.size := h.blk.lt
theorem Made.keeps (h : Made w0 w z t) (hk : Keeps S w w') (hs : ∀ b, S b → w0.heap.size < b) : Made w0 w' z t :=
  ⟨Keeps.below h.ext hk fun k hk hS => by have := hs k hS; omega, h.blk.keeps hk fun hS => by have := hs _ hS; omega⟩
def Gives (A : (Nat → Prop) → World → Array Value → Prop) (w : World) (e : Ending) (w' : World) : Prop := (∃ cs, e = .returned (.agg cs) ∧ A (Fr w.heap.size) w' cs) ∧ Ext w w'
structure Given (A : (Nat → Prop) → World → Array Value → Prop) (n : Nat) (w0 w : World) (cs : Array Value) (t : TypeId) : Prop where
  ext : Ext w0 w
  blk : Blk w w0.heap.size cs t
  ans : A (Fr w0.heap.size) w cs
  size : cs.size = n
include K
theorem wpList_answer {P : Program} {ops : Array Oper} {rest : List Oper} {o : Oper} {a : Act} {Q : Exit → Act → World → Prop} (hgd : o.guard = none) (ty : TypeId) (x v : Operand) (ho : o.op = .store ty x v) (hd : o.dst = none)
    (hm : Hid (Made w0 w z t)) (hz : z.size = n) (hi : (P.info? ty).map (·.size) = some n) (ha : Hid (A q w cs)) (hq : Hid (∀ b, q b → w0.heap.size < b))
    (hx : a.eval x = .pointer (some ⟨w0.heap.size, 0, none⟩)) (hv : a.eval v = .agg cs) (h : ∀ w', Hid (Given A n w0 w' cs t) → wpList P ops Q rest a w') : wpList P ops Q (o :: rest) a w :=
  wpList_store_blk hgd ty x v ho hd w0.heap.size z cs t hm.out.blk hx hv (by rw [K.size ha.out]; exact hi) (by rw [hz, K.size ha.out]) (K.one ha.out) fun w' HB HK =>
    h w' (Lib.hid ⟨Keeps.below hm.out.ext HK.out (fun k hk e => by omega), HB.out, K.mono (K.keeps ha.out HK.out fun b hb e => by have := hq.out b hb; omega) fun b hb => Nat.le_of_lt (hq.out b hb), K.size ha.out⟩)
omit K
theorem Given.fin {P : Program} {fn : Func} {R : Ending → World → Prop} {a : Act} {x : Tmp} {ty : TypeId} (hG : Hid (Given A n w0 w cs t)) (hR : Hid (∀ e w', Gives A w0 e w' → R e w')) (h : fn.results = #[.cell x ty]) (hv : a.tmps.getD x undef = .pointer (some ⟨w0.heap.size, 0, none⟩))
    (d : TypeDesc) (hu : P.underlying ty = some d) (hd : (match d with | .struct _ | .array _ _ => true | _ => false) = true) (hi : (P.info? ty).map (·.size) = some n) (hdf : a.defers = []) : bodyPost P fn R .ret a w :=
  bodyPost_ret (results_cell h hG.out.blk hv d hu hd (by rw [hG.out.size]; exact hi)) hdf (hR.out _ _ ⟨⟨_, rfl, hG.out.ans⟩, hG.out.ext⟩)
end
theorem fr_lt {w0 w : World} {z : Array Value} {t : TypeId} (h : Hid (Made w0 w z t)) {w' : World} (hx : w.heap.size ≤ w'.heap.size) : Hid (∀ b, Fr w'.heap.size b → w0.heap.size < b) := Lib.hid fun b hb => by
  have h1 := h.out.lt; have h2 : w'.heap.size ≤ b := hb; omega
theorem made_call {w0 w w1 w2 : World} {z : Array Value} {t : TypeId} (h : Hid (Made w0 w z t)) (hm : Ext w w1) (hx : Ext w1 w2) : Hid (Made w0 w2 z t) ∧ Hid (∀ b, Fr w1.heap.size b → w0.heap.size < b) :=
  ⟨Lib.hid ((h.out.on hm).on hx), fr_lt h hm.size⟩
theorem ext_al (w : World) (o : Obj) : Ext w (w.alloc o) := (Ext.refl' w).alloc' o
end Go.Proofs.YtnpaikdaogikcaaGreatDoor
