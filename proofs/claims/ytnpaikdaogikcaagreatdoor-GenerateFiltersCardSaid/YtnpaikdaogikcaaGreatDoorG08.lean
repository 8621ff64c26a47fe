/- append(out, x) of one whole struct, onto a row that the call makes: what was read of the others stays. -/
import Derived.Test.YtnpaikdaogikcaaGreatDoorG07
import Derived.Test.YtnpaikdaogikcaaGreatDoorG06

namespace Go.Proofs.YtnpaikdaogikcaaGreatDoor
set_option maxRecDepth 100000
open Go.RowKit
set_option linter.unusedVariables false
set_option linter.unusedSimpArgs false

structure Moves {α : Type} (R : (Nat → Prop) → World → α → List Value → Prop) : Prop where
  mv : ∀ (p q : Nat → Prop) (w w' : World) (x : α) (cs : List Value), (∀ B ds, CellsFrom p w B ds → CellsFrom q w' B ds) → R p w x cs → R q w' x cs
theorem movesE : Moves RdE := ⟨fun _ _ _ _ _ _ h r => RdE.move h _ _ r⟩
theorem movesT : Moves RdT := ⟨fun _ _ _ _ _ _ h r => RdT.move h _ _ r⟩
/-- A row that the call makes: whatever lies behind its elements lies elsewhere. -/
structure RowOf {α : Type} (R : (Nat → Prop) → World → α → List Value → Prop) (e : TypeId) (k : Nat) (base : Nat) (w : World) (v : Value) (l : List α) (ics : List (List Value)) : Prop where
  own : w.ownsRow base e k v l.length ics.flatten
  all : All2 (R (fun b => base ≤ b ∧ v.ownBlock ≠ some b) w) l ics
section
variable {α : Type} {R : (Nat → Prop) → World → α → List Value → Prop} {e : TypeId} {k base : Nat} {w w' : World} {v : Value} {l : List α} {ics : List (List Value)}
theorem RowOf.nil (R : (Nat → Prop) → World → α → List Value → Prop) (e : TypeId) (k base : Nat) (w : World) : RowOf R e k base w (.slice none 0 0) [] [] := ⟨⟨by simp, .inl ⟨rfl, rfl⟩⟩, .nil⟩
theorem RowOf.keeps (M : Moves R) (h : RowOf R e k base w v l ics) {S : Nat → Prop} (hx : Keeps S w w') (hs : ∀ b, base ≤ b → ¬ S b) : RowOf R e k base w' v l ics :=
  ⟨hx.own h.own fun g hg => hs g (h.own.lt g hg).1, h.all.imp fun _ _ hr => M.mv _ _ _ _ _ _ (fun B ds hc => hc.keeps hx fun b hb => hs b hb.1) hr⟩
theorem RowOf.on (M : Moves R) (h : RowOf R e k base w v l ics) (hx : Ext w w') : RowOf R e k base w' v l ics := h.keeps M (Keeps.of_ext (S := fun _ => False) hx) fun _ _ h => h
theorem RowOf.form (h : RowOf R e k base w v l ics) : ∃ A c, v = .slice A l.length c := own_form h.own
theorem RowOf.cells {A : Option Addr} {c : Nat} (h : RowOf R e k base w (.slice A l.length c) l ics) : CellsFrom (Fr base) w A ics.flatten := cellsFrom_own h.own
theorem RowOf.reads (M : Moves R) (h : RowOf R e k base w v l ics) : All2 (R (Fr base) w) l ics := h.all.imp fun _ _ hr => M.mv _ _ _ _ _ _ (fun B ds hc => hc.mono fun b hb => hb.1) hr
theorem RowOf.cap {A : Option Addr} {n c : Nat} (h : RowOf R e k base w (.slice A n c) l ics) : l.length ≤ c := by
  rcases h.own.2 with ⟨h1, h2⟩ | ⟨g, cap, cur, h1, _, _, h2, _⟩
  · omega
  · injection h1 with _ _ h3; omega
theorem wpList_pushB {P : Program} {ops : Array Oper} {rest : List Oper} {o : Oper} {a : Act} {Q : Exit → Act → World → Prop} (hgd : o.guard = none) (s x : Operand) (t : TypeId)
    (ho : o.op = .call { callee := .builtin .append, args := #[s, x], argTypes := #[t, t] })
    (base : Nat) (e : TypeId) (z : Value) (k bytes : Nat) (ht : P.underlying t = some (.slice e)) (hi : (P.info? e).map (fun i => (i.zero, i.size, i.bytes)) = some (some z, k, bytes))
    (hzs : z.cells.size = k) (hk : 0 < k) (cs : Array Value) (hcs : cs.size = k) (v : Value) (n : Nat) (us : List Value) (hs : a.eval s = v) (hown : w.ownsRow base e k v n us)
    (h1 : ∀ u ∈ cs.toList, u.oneCell' = true) (hx : a.eval x = .slice (some ⟨w.heap.size, 0, none⟩) 1 1) (hn : n ≤ 1000000) (hb : bytes ≤ 100000) (hX : base ≤ w.heap.size)
    (h : ∀ v' w', Hid (w'.ownsRow base e k v' (n + 1) (us ++ cs.toList)) → Hid (Push w v w' v') → wpList P ops Q rest (a.put o.dst v') w') : wpList P ops Q (o :: rest) a (w.alloc (.cells cs e)) := by
  obtain ⟨i, hq, hs'⟩ := Option.map_eq_some_iff.1 hi
  simp only [Prod.mk.injEq] at hs'
  obtain ⟨hz, hsz, hby⟩ := hs'
  have hnb : (n + 1) * bytes ≤ 140737488355328 := by
    have := Nat.mul_le_mul (show n + 1 ≤ 1000001 by omega) hb
    omega
  refine wpList_append_src (w.alloc (.cells cs e)) hgd s x t ho base e i z k bytes ht hq hz hsz hby hzs hk v n us hs (hown.alloc _) _ 1 1 cs.toList hx (by simp [hcs]) ?_ h1 hnb (by unfold maxLen; omega) (by simp; omega) ?_
  · have := cellsAt_new w cs.toList e
    simpa using this
  · intro v' w' h2 h3 h4
    exact h v' w' (Lib.hid h2) (Lib.hid ⟨(World.grownBy_alloc w _ _).trans h3, h4.imp id fun e => ⟨_, e, by simp⟩⟩)
theorem wpList_grow {P : Program} (M : Moves R) {ops : Array Oper} {rest : List Oper} {o : Oper} {a : Act} {Q : Exit → Act → World → Prop} (hgd : o.guard = none) (s x : Operand) (t : TypeId)
    (ho : o.op = .call { callee := .builtin .append, args := #[s, x], argTypes := #[t, t] })
    (z : Value) (bytes : Nat) (ht : P.underlying t = some (.slice e)) (hi : (P.info? e).map (fun i => (i.zero, i.size, i.bytes)) = some (some z, k, bytes))
    (hzs : z.cells.size = k) (hk : 0 < k) (cs : List Value) (hcs : cs.toArray.size = k) (y : α) (hs : a.eval s = v) (hrow : Hid (RowOf R e k base w v l ics)) (hy : Hid (R (fun b => base ≤ b ∧ v.ownBlock ≠ some b) w y cs))
    (h1 : ∀ u ∈ cs.toArray.toList, u.oneCell' = true) (hx : a.eval x = .slice (some ⟨w.heap.size, 0, none⟩) 1 1) (hn : l.length ≤ 1000000) (hb : bytes ≤ 100000) (hX : base ≤ w.heap.size)
    (h : ∀ v' w', Hid (RowOf R e k base w' v' (l ++ [y]) (ics ++ [cs])) → Hid (Push w v w' v') → wpList P ops Q rest (a.put o.dst v') w') : wpList P ops Q (o :: rest) a (w.alloc (.cells cs.toArray e)) := by
  refine wpList_pushB hgd s x t ho base e z k bytes ht hi hzs hk cs.toArray hcs v l.length ics.flatten hs hrow.out.own h1 hx hn hb hX fun v' w' HO HP => h v' w' (Lib.hid ⟨?_, ?_⟩) HP
  · have := HO.out; simpa using this
  · have mv : ∀ {x : α} {c : List Value}, R (fun b => base ≤ b ∧ v.ownBlock ≠ some b) w x c → R (fun b => base ≤ b ∧ v'.ownBlock ≠ some b) w' x c := fun hr =>
      M.mv _ _ _ _ _ _ (fun B ds hc => ((hc.lt.keeps (Keeps.of_grown HP.out.grown) fun b hb e => hb.1.2 e).mono fun b hb => ⟨hb.1.1, HP.out.apart hb.2 hb.1.2⟩)) hr
    exact (hrow.out.all.imp fun _ _ hr => mv hr).append (.cons (mv hy.out) .nil)
end
end Go.Proofs.YtnpaikdaogikcaaGreatDoor

/- Trees in memory: their cells; what a method of a parser hands back in a block of its own. -/
namespace Go.Proofs.YtnpaikdaogikcaaGreatDoor
set_option maxRecDepth 100000
open Go.RowKit
set_option linter.unusedVariables false
set_option linter.unusedSimpArgs false

def V6 (k : Int) (b : Bool) (n : Int) (s : ByteArray) (A : Option Addr) (la c : Nat) (B : Option Addr) (lb d : Nat) : List Value := [.int .i64 k, .bool b, .int .i64 n, .string s, .slice A la c, .slice B lb d]
theorem RdV.six {p : Nat → Prop} {w : World} {v : V} {cs : List Value} (h : RdV p w v cs) : ∃ k b n s A la c B lb d, cs = V6 k b n s A la c B lb d := by
  cases v
  simp only [RdV] at h
  obtain ⟨A, c, B, d, ics, e, _⟩ := h
  exact ⟨_, _, _, _, _, _, _, _, _, _, e⟩
theorem RdE.nine {p : Nat → Prop} {w : World} {x : E} {cs : List Value} (h : RdE p w x cs) : ∃ o m k b n s A la c B lb d C lc e, cs = [.string o, .string m, .int .i64 k, .bool b, .int .i64 n, .string s, .slice A la c, .slice B lb d, .slice C lc e] := by
  cases x
  simp only [RdE] at h
  obtain ⟨vs, C, e, ics, hcs, hv, _⟩ := h
  obtain ⟨k, b, n, s, A, la, c, B, lb, d, rfl⟩ := hv.six
  exact ⟨_, _, _, _, _, _, _, _, _, _, _, _, _, _, _, hcs⟩
/-- The cells of no expression. -/
abbrev zero9 : List Value := [.string ⟨#[]⟩, .string ⟨#[]⟩, .int .i64 0, .bool false, .int .i64 0, .string ⟨#[]⟩, .slice none 0 0, .slice none 0 0, .slice none 0 0]
theorem RdT.thirteen {p : Nat → Prop} {w : World} {x : T} {cs : List Value} (h : RdT p w x cs) : ∃ k0 nm k b n s A la c B lb d K lk kc W lw wc P lp pc X lx xc Z lz zc, cs = [.int .i64 k0, .string nm, .int .i64 k, .bool b, .int .i64 n, .string s, .slice A la c, .slice B lb d, .slice K lk kc, .slice W lw wc, .slice P lp pc, .slice X lx xc, .slice Z lz zc] := by
  cases x
  simp only [RdT] at h
  obtain ⟨vs, K, kc, W, wc, P, pc, X, xc, Z, zc, ics, xcs, e, hv, _⟩ := h
  obtain ⟨k, b, n, s, A, la, c, B, lb, d, rfl⟩ := hv.six
  exact ⟨_, _, _, _, _, _, _, _, _, _, _, _, _, _, _, _, _, _, _, _, _, _, _, _, _, _, _, e⟩
abbrev zero13 : List Value := [.int .i64 0, .string ⟨#[]⟩, .int .i64 0, .bool false, .int .i64 0, .string ⟨#[]⟩, .slice none 0 0, .slice none 0 0, .slice none 0 0, .slice none 0 0, .slice none 0 0, .slice none 0 0, .slice none 0 0]
theorem ones (l : List Value) (h : l.all Value.oneCell' = true) : ∀ u ∈ l.toArray.toList, u.oneCell' = true := by
  intro u hu; exact List.all_eq_true.1 h u (by simpa using hu)
/-- A term that is one cell after the other: no parts, or those that are told. -/
theorem RdT_of {p : Nat → Prop} {w : World} {kind : Int} {name : Bs} {lit : V} {vs : List Value} {keys : List Bs} {weights : List Int} {parts : List T} {exprs : List E} {isos : List I} {K : Option Addr} {kc : Nat} {W : Option Addr} {wc : Nat} {A : Option Addr} {c : Nat} {X : Option Addr} {xc : Nat} {Z : Option Addr} {zc : Nat} {ics xcs : List (List Value)}
    (h1 : RdV p w lit vs) (h2 : keys.length ≤ kc) (h3 : weights.length ≤ wc) (h4 : parts.length ≤ c) (h5 : exprs.length ≤ xc) (h6 : isos.length ≤ zc) (h7 : CellsFrom p w K (keys.map sv)) (h8 : CellsFrom p w W (weights.map I64)) (h9 : All2 (RdT p w) parts ics) (ha : CellsFrom p w A ics.flatten) (hb : All2 (RdE p w) exprs xcs) (hc : CellsFrom p w X xcs.flatten) (hd : CellsFrom p w Z (isos.flatMap cellsI)) :
    RdT p w (.mk kind name lit keys weights parts exprs isos) (.int .i64 kind :: sv name :: (vs ++ [.slice K keys.length kc, .slice W weights.length wc, .slice A parts.length c, .slice X exprs.length xc, .slice Z isos.length zc])) := by
  simp only [RdT]
  exact ⟨vs, K, kc, W, wc, A, c, X, xc, Z, zc, ics, xcs, rfl, h1, h2, h3, h4, h5, h6, h7, h8, (RdTs_iff _ _ _ _).2 h9, ha, (RdEs_iff _ _ _ _).2 hb, hc, hd⟩
theorem RdT_leaf {p : Nat → Prop} {w : World} (kind : Int) (name : Bs) {lit : V} {vs : List Value} (h1 : RdV p w lit vs) : RdT p w (.mk kind name lit [] [] [] [] []) (.int .i64 kind :: sv name :: (vs ++ [.slice none 0 0, .slice none 0 0, .slice none 0 0, .slice none 0 0, .slice none 0 0])) :=
  RdT_of h1 (Nat.le_refl _) (Nat.le_refl _) (Nat.le_refl _) (Nat.le_refl _) (Nat.le_refl _) (CellsFrom.nil _ _ _) (CellsFrom.nil _ _ _) .nil (CellsFrom.nil _ _ _) .nil (CellsFrom.nil _ _ _) (CellsFrom.nil _ _ _)

theorem RdV.one {p : Nat → Prop} {w : World} {v : V} {cs : List Value} (h : RdV p w v cs) : ∀ u ∈ cs, u.oneCell' = true := by
  cases v; simp only [RdV] at h; obtain ⟨_, _, _, _, _, rfl, _⟩ := h
  intro u hu; simp only [List.mem_cons, List.not_mem_nil, or_false] at hu
  rcases hu with rfl | rfl | rfl | rfl | rfl | rfl <;> rfl
theorem RdE.one {p : Nat → Prop} {w : World} {v : E} {cs : List Value} (h : RdE p w v cs) : ∀ u ∈ cs, u.oneCell' = true := by
  cases v; simp only [RdE] at h; obtain ⟨_, _, _, _, rfl, h, _⟩ := h
  intro u hu; simp only [List.mem_cons, List.mem_append, List.not_mem_nil, or_false] at hu
  rcases hu with rfl | rfl | hu | rfl
  · rfl
  · rfl
  · exact h.one u hu
  · rfl
theorem RdT.one {p : Nat → Prop} {w : World} {v : T} {cs : List Value} (h : RdT p w v cs) : ∀ u ∈ cs, u.oneCell' = true := by
  cases v; simp only [RdT] at h; obtain ⟨vs, _, _, _, _, _, _, _, _, _, _, _, _, rfl, h, _⟩ := h
  intro u hu; simp only [List.mem_cons, List.mem_append, List.not_mem_nil, or_false] at hu
  rcases hu with rfl | rfl | hu | rfl | rfl | rfl | rfl | rfl
  · rfl
  · rfl
  · exact h.one u hu
  all_goals rfl
abbrev AV (v : V) (p : Nat → Prop) (w : World) (cs : Array Value) : Prop := RdV p w v cs.toList
abbrev AE1 (x : E) (p : Nat → Prop) (w : World) (cs : Array Value) : Prop := RdE p w x cs.toList
abbrev AT1 (t : T) (p : Nat → Prop) (w : World) (cs : Array Value) : Prop := RdT p w t cs.toList
theorem kV (v : V) : Kind 6 (AV v) := ⟨fun h => by have := h.len; simpa using this, fun h => h.one, fun hx h => RdV.move hx _ _ h⟩
theorem kE (x : E) : Kind 9 (AE1 x) := ⟨fun h => by have := h.len; simpa using this, fun h => h.one, fun hx h => RdE.move hx _ _ h⟩
theorem kT (t : T) : Kind 13 (AT1 t) := ⟨fun h => by have := h.len; simpa using this, fun h => h.one, fun hx h => RdT.move hx _ _ h⟩

/-- The call's own block for what it answers, where the blocks of S are written. -/
structure MadeK (S : Nat → Prop) (w0 w : World) (z : Array Value) (t : TypeId) : Prop where
  keeps : Keeps S w0 w
  blk : Blk w w0.heap.size z t
  old : ∀ b, S b → b < w0.heap.size
section
variable {n : Nat} {A : (Nat → Prop) → World → Array Value → Prop} {S p q : Nat → Prop} {w0 w w' : World} {z cs : Array Value} {t : TypeId}
theorem madeK (w : World) (z : Array Value) (t : TypeId) (hs : ∀ b, S b → b < w.heap.size) : MadeK S w (w.alloc (.cells z t)) z t := ⟨Keeps.of_ext ((Ext.refl' w).alloc' _), Blk.new w _ _, hs⟩
theorem MadeK.keep (h : MadeK S w0 w z t) (hk : Keeps S w w') : MadeK S w0 w' z t := ⟨h.keeps.trans hk, h.blk.keeps hk fun hS => by have := h.old _ hS; omega, h.old⟩
theorem MadeK.on (h : MadeK S w0 w z t) (hx : Ext w w') : MadeK S w0 w' z t := h.keep (Keeps.of_ext hx)
theorem MadeK.lt (h : MadeK S w0 w z t) : w0.heap.size < w.heap.size := h.blk.lt
/-- What a call answers, where the blocks of S are written. -/
def GivesK (S : Nat → Prop) (A : (Nat → Prop) → World → Array Value → Prop) (w : World) (e : Ending) (w' : World) : Prop := (∃ cs, e = .returned (.agg cs) ∧ A (Fr w.heap.size) w' cs) ∧ Keeps S w w'
structure GivenK (S : Nat → Prop) (A : (Nat → Prop) → World → Array Value → Prop) (n : Nat) (w0 w : World) (cs : Array Value) (t : TypeId) : Prop where
  keeps : Keeps S w0 w
  blk : Blk w w0.heap.size cs t
  ans : A (Fr w0.heap.size) w cs
  size : cs.size = n
theorem wpList_answerK (K : Kind n A) {P : Program} {ops : Array Oper} {rest : List Oper} {o : Oper} {a : Act} {Q : Exit → Act → World → Prop} (hgd : o.guard = none) (ty : TypeId) (x v : Operand) (ho : o.op = .store ty x v) (hd : o.dst = none)
    (hm : Hid (MadeK S w0 w z t)) (hz : z.size = n) (hi : (P.info? ty).map (·.size) = some n) (ha : Hid (A q w cs)) (hq : Hid (∀ b, q b → w0.heap.size < b))
    (hx : a.eval x = .pointer (some ⟨w0.heap.size, 0, none⟩)) (hv : a.eval v = .agg cs) (h : ∀ w', Hid (GivenK S A n w0 w' cs t) → Hid (Keeps (fun b => b = w0.heap.size) w w') → wpList P ops Q rest a w') : wpList P ops Q (o :: rest) a w :=
  wpList_store_blk hgd ty x v ho hd w0.heap.size z cs t hm.out.blk hx hv (by rw [K.size ha.out]; exact hi) (by rw [hz, K.size ha.out]) (K.one ha.out) fun w' HB HK =>
    h w' (Lib.hid ⟨⟨HK.out.os.trans hm.out.keeps.os, HK.out.tape.trans hm.out.keeps.tape, HK.out.output.trans hm.out.keeps.output, Nat.le_trans hm.out.keeps.size HK.out.size, fun k hk hn => (HK.out.block k (Nat.lt_of_lt_of_le hk hm.out.keeps.size) (by omega)).trans (hm.out.keeps.block k hk hn)⟩, HB.out, K.mono (K.keeps ha.out HK.out fun b hb e => by have := hq.out b hb; omega) fun b hb => Nat.le_of_lt (hq.out b hb), K.size ha.out⟩) HK
theorem GivenK.fin {P : Program} {fn : Func} {R : Ending → World → Prop} {a : Act} {x : Tmp} {ty : TypeId} (hG : Hid (GivenK S A n w0 w cs t)) (h : fn.results = #[.cell x ty]) (hv : a.tmps.getD x undef = .pointer (some ⟨w0.heap.size, 0, none⟩))
    (d : TypeDesc) (hu : P.underlying ty = some d) (hd : (match d with | .struct _ | .array _ _ => true | _ => false) = true) (hi : (P.info? ty).map (·.size) = some n) (hdf : a.defers = []) (hR : GivesK S A w0 (.returned (.agg cs)) w → R (.returned (.agg cs)) w) : bodyPost P fn R .ret a w :=
  bodyPost_ret (results_cell h hG.out.blk hv d hu hd (by rw [hG.out.size]; exact hi)) hdf (hR ⟨⟨_, rfl, hG.out.ans⟩, hG.out.keeps⟩)
end
end Go.Proofs.YtnpaikdaogikcaaGreatDoor

/- The terms' parser: just, with a number. -/
namespace Go.Proofs.YtnpaikdaogikcaaGreatDoor
set_option maxRecDepth 100000
open Go.RowKit
set_option linter.unusedVariables false
set_option linter.unusedSimpArgs false

theorem info13p : (Tryz.prog.info? 51).map (·.size) = some 13 := by kernel_rfl
theorem info6p : (Tryz.prog.info? 32).map (·.size) = some 6 := by kernel_rfl
/-- What a parser's method for a term gives: the tree, and the place behind it. -/
def GTerm (pb : Nat) (S : ByteArray) (j : Nat) (t : T) (w : World) (e : Ending) (w' : World) : Prop := GivesK (fun b => b = pb) (AT1 t) w e w' ∧ PA 66 w' pb S j 0 0
abbrev cellsInt (n : Int) : List Value := [.int .i64 2, .bool false, .int .i64 n, .string ⟨#[]⟩, .slice none 0 0, .slice none 0 0]
theorem rdV_int (p : Nat → Prop) (w : World) (n : Int) : RdV p w (.ofInt n) (cellsInt n) := by
  simp only [RdV]
  exact ⟨none, 0, none, 0, [], rfl, Nat.le_refl _, Nat.le_refl _, rfl, CellsFrom.nil _ _ _, CellsFrom.nil _ _ _⟩
abbrev cellsJust (n : Int) : Array Value := #[.int .i64 0, .string ⟨#[]⟩, .int .i64 2, .bool false, .int .i64 n, .string ⟨#[]⟩, .slice none 0 0, .slice none 0 0, .slice none 0 0, .slice none 0 0, .slice none 0 0, .slice none 0 0, .slice none 0 0]
theorem rdT_just (p : Nat → Prop) (w : World) (n : Int) : AT1 (tJust (.ofInt n)) p w (cellsJust n) := RdT_leaf 0 [] (rdV_int p w n)
theorem numberV (n : Int) (w : World) : Calls Tryz.prog 39 #[.int .i64 n] w fun e w' => e = .returned (.agg (cellsInt n).toArray) ∧ Ext w w' := by
  refine of_post fun R hR => ?_
  have HX0 := Lib.hid (ext_al w (.cells #[.int .i64 0, .bool false, .int .i64 0, .string ⟨#[]⟩, .slice none 0 0, .slice none 0 0] 32))
  go_enter Tryz.func39, Tryz.ntmps39
  go_wp2_with (refine wpList_new rfl 32 _ _ rfl rfl _ (cellsInt n).toArray 32 rfl rfl info6p rfl (ones _ (by rfl)) ?_; intro w5 HX5 HB5)
  exact bodyPost_ret (results_cell Tryz.results39 HB5.out rfl _ Tryz.underlying32 rfl info6p) rfl (hR.out _ _ ⟨rfl, HX5.out⟩)
theorem just1T (c : UInt8) (w : World) : Calls Tryz.prog 95 #[.int .u8 c.toNat] w fun e w' => e = .returned (.bool (isDig c || c == 45)) ∧ w' = w := by
  refine of_post fun R hR => ?_
  have HD := fun w => Lib.hid (digitT c w)
  have HU := Lib.hid (u8_eq c 45)
  have HE : Hid (∀ d, isDig c = d → (isDig c || c == 45) = (d || decide ((c.toNat : Int) = 45))) := Lib.hid fun d h => by rw [h, HU.out]; rfl
  cases hd : isDig c
  all_goals
    rw [hd] at HD
    have HF := Lib.hid (HE.out _ hd)
    clear hd HE
    go_enter Tryz.func95, Tryz.ntmps95
    go_wp2_with (go_at_call 91; refine (HD _).out.mono ?_; rintro e w1 ⟨rfl, hw⟩; obtain rfl := hw)
    exact hR.out _ _ ⟨ret_bb rfl (by rw [HF.out]; first | rfl | simp), rfl⟩
abbrev zero13a : Array Value := #[.int .i64 0, .string ⟨#[]⟩, .int .i64 0, .bool false, .int .i64 0, .string ⟨#[]⟩, .slice none 0 0, .slice none 0 0, .slice none 0 0, .slice none 0 0, .slice none 0 0, .slice none 0 0, .slice none 0 0]
set_option maxHeartbeats 1000000 in
theorem just_num (S : ByteArray) (i pb : Nat) (w : World) (n : Int) (j : Nat) (hp : PA 66 w pb S i 0 0) (hi : i ≤ S.size) (hS : S.size ≤ 100000)
    (hw : (word (tl S) i).1 = []) (hd : atP (fun c => isDig c || c == 45) (tl S) (blanks (tl S) i) = true) (hn : numAt (tl S) (blanks (tl S) i) true = some (n, j)) :
    Calls Tryz.prog 53 #[.pointer (some ⟨pb, 0, none⟩)] w (GTerm pb S j (tJust (.ofInt n)) w) := by
  refine of_post fun R hR => ?_
  have hlt := hp.lt
  have HM := Lib.hid (madeK (S := fun b => b = pb) w zero13a 51 (by rintro b rfl; exact hlt))
  have HPA := Lib.hid (hp.on (ext_al w (.cells zero13a 51)))
  have HW := Lib.hid hw
  have HD := Lib.hid hd
  have HEN : Enters Tryz.prog 95 := enters_of Tryz.func95 (by kernel_rfl) rfl
  clear hp hw hd
  go_enter Tryz.func53, Tryz.ntmps53
  go_wp2_with (first
    | (go_at_call 26; refine (wordT S i pb 0 0 _ HPA.out hi hS).mono ?_; rintro e w1 ⟨rfl, hw⟩; obtain rfl := hw; rw [HW.out])
    | (go_at_call 94; refine (hasT S i pb 0 _ HPA.out hi hS 95 _ HEN just1T).mono ?_; rintro e w1 ⟨rfl, hw⟩; obtain rfl := hw; rw [HD.out])
    | (go_at_call 96; refine (numberT S i pb 0 true n j _ HPA.out hi hS hn).mono ?_; rintro e w1 ⟨rfl, hm⟩; replace HPA := Lib.hid hm.at_; replace HM := Lib.hid (HM.out.keep hm.keeps); clear hm)
    | (go_at_call 39; refine (numberV n _).mono ?_; rintro e w1 ⟨rfl, hx⟩; replace HPA := Lib.hid (HPA.out.on hx); replace HM := Lib.hid (HM.out.on hx); clear hx)
    | (refine wpList_answerK (kT (tJust (.ofInt n))) rfl 51 _ _ rfl rfl HM rfl info13p (Lib.hid (rdT_just (fun _ => False) _ n)) (Lib.hid (fun _ h => h.elim)) rfl rfl ?_; intro w9 HG HK))
  exact GivenK.fin HG Tryz.results53 rfl _ Tryz.underlying51 rfl info13p rfl fun h => hR.out _ _ ⟨h, Blk.keeps HPA.out HK.out (by omega)⟩
end Go.Proofs.YtnpaikdaogikcaaGreatDoor
