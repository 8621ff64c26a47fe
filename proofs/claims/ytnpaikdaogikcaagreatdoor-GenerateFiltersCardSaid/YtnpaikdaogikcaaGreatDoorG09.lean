/- append(out, x) of one whole struct, where another row grows beside it: the trees avoid both. -/
import Derived.Test.YtnpaikdaogikcaaGreatDoorG08
import Derived.Test.YtnpaikdaogikcaaGreatDoorG03

namespace Go.Proofs.YtnpaikdaogikcaaGreatDoor
set_option maxRecDepth 100000
open Go.RowKit
set_option linter.unusedVariables false
set_option linter.unusedSimpArgs false

/-- A row that the call makes: whatever lies behind its elements lies elsewhere. -/
structure RowG {α : Type} (R : (Nat → Prop) → World → α → List Value → Prop) (e : TypeId) (k : Nat) (base : Nat) (G : Nat → Prop) (w : World) (v : Value) (l : List α) (ics : List (List Value)) : Prop where
  own : w.ownsRow base e k v l.length ics.flatten
  all : All2 (R (fun b => G b ∧ v.ownBlock ≠ some b) w) l ics
section
variable {α : Type} {R : (Nat → Prop) → World → α → List Value → Prop} {e : TypeId} {k base : Nat} {G G' : Nat → Prop} {w w' : World} {v : Value} {l : List α} {ics : List (List Value)}
theorem RowG.nil (R : (Nat → Prop) → World → α → List Value → Prop) (e : TypeId) (k base : Nat) (G : Nat → Prop) (w : World) : RowG R e k base G w (.slice none 0 0) [] [] := ⟨⟨by simp, .inl ⟨rfl, rfl⟩⟩, .nil⟩
theorem RowG.keeps (M : Moves R) (h : RowG R e k base G w v l ics) {S : Nat → Prop} (hx : Keeps S w w') (hs : ∀ b, G b → ¬ S b) (ho : ∀ b, v.ownBlock = some b → ¬ S b) : RowG R e k base G w' v l ics :=
  ⟨hx.own h.own ho, h.all.imp fun _ _ hr => M.mv _ _ _ _ _ _ (fun B ds hc => hc.keeps hx fun b hb => hs b hb.1) hr⟩
theorem RowG.on (M : Moves R) (h : RowG R e k base G w v l ics) (hx : Ext w w') : RowG R e k base G w' v l ics := h.keeps M (Keeps.of_ext (S := fun _ => False) hx) (fun _ _ h => h) fun _ _ h => h
theorem RowG.form (h : RowG R e k base G w v l ics) : ∃ A c, v = .slice A l.length c := own_form h.own
theorem RowG.cells {A : Option Addr} {c : Nat} (h : RowG R e k base G w (.slice A l.length c) l ics) : CellsFrom (Fr base) w A ics.flatten := cellsFrom_own h.own
theorem RowG.reads (M : Moves R) (h : RowG R e k base G w v l ics) (hG : ∀ b, G b → base ≤ b) : All2 (R (Fr base) w) l ics := h.all.imp fun _ _ hr => M.mv _ _ _ _ _ _ (fun B ds hc => hc.mono fun b hb => hG b hb.1) hr
/-- Other good blocks, of those that there are. -/
theorem RowG.regood (M : Moves R) (h : RowG R e k base G w v l ics) (hG : ∀ b, b < w.heap.size → G b → G' b) : RowG R e k base G' w v l ics :=
  ⟨h.own, h.all.imp fun _ _ hr => M.mv _ _ _ _ _ _ (fun B ds hc => hc.lt.mono fun b hb => ⟨hG b hb.2 hb.1.1, hb.1.2⟩) hr⟩
theorem RowG.cap {A : Option Addr} {n c : Nat} (h : RowG R e k base G w (.slice A n c) l ics) : l.length ≤ c := by
  rcases h.own.2 with ⟨h1, h2⟩ | ⟨g, cap, cur, h1, _, _, h2, _⟩
  · omega
  · injection h1 with _ _ h3; omega
theorem wpList_growG {P : Program} (M : Moves R) {ops : Array Oper} {rest : List Oper} {o : Oper} {a : Act} {Q : Exit → Act → World → Prop} (hgd : o.guard = none) (s x : Operand) (t : TypeId)
    (ho : o.op = .call { callee := .builtin .append, args := #[s, x], argTypes := #[t, t] })
    (z : Value) (bytes : Nat) (ht : P.underlying t = some (.slice e)) (hi : (P.info? e).map (fun i => (i.zero, i.size, i.bytes)) = some (some z, k, bytes))
    (hzs : z.cells.size = k) (hk : 0 < k) (cs : List Value) (hcs : cs.toArray.size = k) (y : α) (hs : a.eval s = v) (hrow : Hid (RowG R e k base G w v l ics)) (hy : Hid (R (fun b => G b ∧ v.ownBlock ≠ some b) w y cs))
    (h1 : ∀ u ∈ cs.toArray.toList, u.oneCell' = true) (hx : a.eval x = .slice (some ⟨w.heap.size, 0, none⟩) 1 1) (hn : l.length ≤ 1000000) (hb : bytes ≤ 100000) (hX : base ≤ w.heap.size)
    (h : ∀ v' w', Hid (RowG R e k base G w' v' (l ++ [y]) (ics ++ [cs])) → Hid (Push w v w' v') → wpList P ops Q rest (a.put o.dst v') w') : wpList P ops Q (o :: rest) a (w.alloc (.cells cs.toArray e)) := by
  refine wpList_pushB hgd s x t ho base e z k bytes ht hi hzs hk cs.toArray hcs v l.length ics.flatten hs hrow.out.own h1 hx hn hb hX fun v' w' HO HP => h v' w' (Lib.hid ⟨?_, ?_⟩) HP
  · have := HO.out; simpa using this
  · have mv : ∀ {x : α} {c : List Value}, R (fun b => G b ∧ v.ownBlock ≠ some b) w x c → R (fun b => G b ∧ v'.ownBlock ≠ some b) w' x c := fun hr =>
      M.mv _ _ _ _ _ _ (fun B ds hc => ((hc.lt.keeps (Keeps.of_grown HP.out.grown) fun b hb e => hb.1.2 e).mono fun b hb => ⟨hb.1.1, HP.out.apart hb.2 hb.1.2⟩)) hr
    exact (hrow.out.all.imp fun _ _ hr => mv hr).append (.cons (mv hy.out) .nil)
end
end Go.Proofs.YtnpaikdaogikcaaGreatDoor

/- The terms' parser: weights and parts that grow in one term. -/
namespace Go.Proofs.YtnpaikdaogikcaaGreatDoor
set_option maxRecDepth 100000
open Go.RowKit
set_option linter.unusedVariables false
set_option linter.unusedSimpArgs false

/-- Blocks that are no row's of the other kind. -/
abbrev OffT (base : Nat) (u : Value) : Nat → Prop := fun b => base ≤ b ∧ u.ownBlock ≠ some b
/-- One-cell things and terms that grow side by side. -/
structure PRow (base : Nat) (t1 : TypeId) (u : Value) (ks : List Value) (v : Value) (ts : List T) (ics : List (List Value)) (w : World) : Prop where
  own : w.ownsRow base t1 1 u ks.length ks
  row : RowG RdT 51 13 base (OffT base u) w v ts ics
  dj : ∀ b, v.ownBlock = some b → u.ownBlock ≠ some b
  le : base ≤ w.heap.size
section
variable {base : Nat} {t1 : TypeId} {u v u1 v1 : Value} {ks : List Value} {ts : List T} {ics : List (List Value)} {w w1 : World} {S : Nat → Prop}
theorem PRow.nil (base : Nat) (t1 : TypeId) (w : World) (h : base ≤ w.heap.size) : PRow base t1 (.slice none 0 0) [] (.slice none 0 0) [] [] w :=
  ⟨⟨by simp, .inl ⟨rfl, rfl⟩⟩, RowG.nil _ _ _ _ _ _, fun b h => by simp [Value.ownBlock] at h, h⟩
theorem PRow.keeps (h : PRow base t1 u ks v ts ics w) (hx : Keeps S w w1) (hs : ∀ b, base ≤ b → ¬ S b) : PRow base t1 u ks v ts ics w1 :=
  ⟨hx.own h.own fun b hb => hs b (h.own.lt b hb).1, h.row.keeps movesT hx (fun b hb => hs b hb.1) fun b hb => hs b (h.row.own.lt b hb).1, h.dj, Nat.le_trans h.le hx.size⟩
theorem PRow.on (h : PRow base t1 u ks v ts ics w) (hx : Ext w w1) : PRow base t1 u ks v ts ics w1 := h.keeps (Keeps.of_ext (S := fun _ => False) hx) fun _ _ h => h
theorem PRow.far (h : PRow base t1 u ks v ts ics w) (b : Nat) (hb : Fr w.heap.size b) : OffT base u b ∧ v.ownBlock ≠ some b := by
  have h0 : w.heap.size ≤ b := hb
  have hl := h.le
  exact ⟨⟨by omega, fun e => by have := (h.own.lt _ e).2; omega⟩, fun e => by have := (h.row.own.lt _ e).2; omega⟩
theorem PRow.push1 {k : Value} (h : PRow base t1 u ks v ts ics w) (ho : w1.ownsRow base t1 1 u1 (ks.length + 1) (ks ++ [k])) (hp : Push w u w1 u1) : PRow base t1 u1 (ks ++ [k]) v ts ics w1 := by
  have hk := Keeps.of_grown hp.grown
  have hvb : ∀ b, v.ownBlock = some b → base ≤ b ∧ b < w.heap.size := fun b hb => h.row.own.lt b hb
  refine ⟨by simpa using ho, ?_, fun b hb => hp.apart (hvb b hb).2 (h.dj b hb), Nat.le_trans h.le hk.size⟩
  have h1 := (h.row.regood (G' := fun b => OffT base u b ∧ OffT base u1 b) movesT fun b hb hg => ⟨hg, hg.1, hp.apart hb hg.2⟩).keeps movesT hk (fun b hb e => hb.1.2 e) fun b hb e => h.dj b hb e
  exact h1.regood movesT fun b _ hg => hg.2
theorem PRow.pushT {x : T} {cs : List Value} (h : PRow base t1 u ks v ts ics w) (hr : RowG RdT 51 13 base (OffT base u) w1 v1 (ts ++ [x]) (ics ++ [cs])) (hp : Push w v w1 v1) : PRow base t1 u ks v1 (ts ++ [x]) (ics ++ [cs]) w1 := by
  have hk := Keeps.of_grown hp.grown
  refine ⟨hk.own h.own fun b hb e => h.dj b e hb, hr, fun b hb e => ?_, Nat.le_trans h.le hk.size⟩
  rcases hp.block with h1 | ⟨q, h1, hq⟩
  · exact h.dj b (h1 ▸ hb) e
  · rw [h1] at hb; cases hb; have := (h.own.lt _ e).2; omega
/-- What grows lies in blocks from base on. -/
theorem PRow.keep1 (h : PRow base t1 u ks v ts ics w) (hp : Push w u w1 u1) {K : Nat → Prop} (hK : ∀ b, base ≤ b → K b) : Keeps K w w1 :=
  (Keeps.of_grown hp.grown).mono fun b _ e => hK b (h.own.lt _ e).1
theorem PRow.keepT (h : PRow base t1 u ks v ts ics w) (hp : Push w v w1 v1) {K : Nat → Prop} (hK : ∀ b, base ≤ b → K b) : Keeps K w w1 :=
  (Keeps.of_grown hp.grown).mono fun b _ e => hK b (h.row.own.lt _ e).1
end
theorem RdT.thirteenA {p : Nat → Prop} {w : World} {x : T} {cs : Array Value} (h : RdT p w x cs.toList) : ∃ k0 nm k b n s A la c B lb d K lk kc W lw wc P lp pc X lx xc Z lz zc, cs = #[.int .i64 k0, .string nm, .int .i64 k, .bool b, .int .i64 n, .string s, .slice A la c, .slice B lb d, .slice K lk kc, .slice W lw wc, .slice P lp pc, .slice X lx xc, .slice Z lz zc] := by
  obtain ⟨x0, x1, x2, x3, x4, x5, x6, x7, x8, x9, y0, y1, y2, y3, y4, y5, y6, y7, y8, y9, z0, z1, z2, z3, z4, z5, z6, e⟩ := RdT.thirteen h
  exact ⟨x0, x1, x2, x3, x4, x5, x6, x7, x8, x9, y0, y1, y2, y3, y4, y5, y6, y7, y8, y9, z0, z1, z2, z3, z4, z5, z6, Array.ext' e⟩
theorem infoInt : (Tryz.prog.info? 3).map (fun i => (i.zero, i.size, i.bytes)) = some (some (.int .i64 0), 1, 8) := by kernel_rfl
theorem infoStr : (Tryz.prog.info? 9).map (fun i => (i.zero, i.size, i.bytes)) = some (some (.string ⟨#[]⟩), 1, 16) := by kernel_rfl
theorem info13P : (Tryz.prog.info? 51).map (fun i => (i.zero, i.size, i.bytes)) = some (some (.agg zero13a), 13, 232) := by kernel_rfl
end Go.Proofs.YtnpaikdaogikcaaGreatDoor

/- A chooser by a source: a place, by weights; a machine's choice. -/
namespace Go.Proofs.YtnpaikdaogikcaaGreatDoor
set_option maxRecDepth 100000
open Go.RowKit
set_option linter.unusedVariables false
set_option linter.unusedSimpArgs false

set_option maxHeartbeats 1000000 in
theorem cloneI (A : Option Addr) (xs : List Int) (c : Nat) (w : World) (hA : CellsAt w A (xs.map I64)) (hx : xs.length ≤ 100000) :
    Calls Tryz.prog 13 #[.slice A xs.length c] w fun e w' => (∃ A' c', e = .returned (.slice A' xs.length c') ∧ CellsAt w' A' (xs.map I64) ∧ ∀ b o, A' = some ⟨b, o, none⟩ → w.heap.size ≤ b) ∧ Ext w w' := by
  refine of_post fun R hR => ?_
  obtain ⟨i0, hi, hz0, hz1, hz2⟩ := info_parts infoInt
  have heq := fun (W : World) (a : Option Addr) (n c : Nat) => Lib.run_eql_slice_nil (P := Tryz.prog) W 28 3 a n c 0 0 Tryz.underlying28
  cases A with
  | none =>
    have h0 : xs = [] := by
      by_cases h : xs = []
      · exact h
      · obtain ⟨b, o, e, _⟩ := hA (by simpa using h); cases e
    subst h0
    clear hA hx
    go_enter Tryz.func13, Tryz.ntmps13
    go_wp2_with fail
    exact hR.out _ _ ⟨⟨none, 0, rfl, CellsAt.nil _ _, fun b o e => by cases e⟩, Ext.refl' _⟩
  | some a =>
    have HC := Lib.hid (CellsAt.ext hA ((Ext.refl' w).alloc' (.cells #[] 3)))
    have HO := Lib.hid (own_empty w 3 1)
    have hb1 : (0 + xs.length) * 8 ≤ 140737488355328 := by omega
    have hb2 : 0 + xs.length ≤ maxLen := by unfold maxLen; omega
    have HL : Hid ((xs.map I64).length = xs.length * 1) := Lib.hid (by simp)
    have HON := Lib.hid (oneCells_I64 xs)
    generalize hus : xs.map I64 = us at *
    have HUS := Lib.hid hus
    clear hA hx hus
    generalize xs.length = n at *
    go_enter Tryz.func13, Tryz.ntmps13
    go_wp2_with (at_builtin; go_must (refine wpList_append_src _ rfl _ _ 28 rfl w.heap.size 3 i0 (.int .i64 0) 1 8 Tryz.underlying28 hi hz0 hz1 hz2 rfl (by decide) (.slice (some ⟨w.heap.size, 0, none⟩) 0 0) 0 [] rfl HO.out (some a) n c us rfl HL.out HC.out HON.out hb1 hb2 (by simp) ?_); intro u' w2 hO1 hG1 hB1; rw [Nat.zero_add, List.nil_append] at hO1; obtain ⟨A2, c2, rfl⟩ := own_form hO1; have HO1 := Lib.hid hO1; have HX := Lib.hid (ext_grown_from ((Ext.refl' w).alloc' _) hG1 (by intro k hk; simp [Value.ownBlock] at hk; omega)); clear hO1 hG1 hB1)
    refine hR.out _ _ ⟨⟨A2, c2, rfl, cellsAt_of_own HO1.out, ?_⟩, HX.out⟩
    rintro b o rfl
    rcases HO1.out.2 with ⟨h1, _⟩ | ⟨g, cap, cur, h1, hb, _⟩
    · injection h1 with h1; cases h1
    · injection h1 with h1; cases h1; exact hb
set_option maxHeartbeats 1000000 in
theorem chooseC (sb u : Nat) (l ws : List Int) (A : Option Addr) (c : Nat) (bound : Value) (w : World) (h : Src w sb u l) (hu : u < l.length) (hl : l.length ≤ 10000) (h0 : 0 ≤ l[u]) (hlt : l[u] < sumL ws) (hc : CellsAt w A (ws.map I64)) (hne : ∀ b o, A = some ⟨b, o, none⟩ → b ≠ sb)
    (hw : ∀ n ∈ ws, 1 ≤ n ∧ n ≤ 1000) (hn : ws.length ≤ 64) (hpos : 0 < ws.length) :
    Calls Tryz.prog 317 #[.agg #[.iface 58 (.pointer (some ⟨sb, 0, none⟩))], bound, .slice A ws.length c] w fun e w' => e = .returned (.tuple #[.int .i64 (placeL ws l[u]), .int .i64 0]) ∧ Keeps (fun b => b = sb) w w' ∧ Src w' sb (u + 1) l := by
  refine of_post fun R hR => ?_
  have hx := ext_al w (.cells #[.iface 58 (.pointer (some ⟨sb, 0, none⟩))] 57)
  have HWT := Lib.hid (weighT sb u l ws A c _ (h.on hx) hu hl h0 hlt (hc.ext hx) hne hw hn)
  have HX := Lib.hid hx
  have hp1 : (0 : Int) < ws.length := by omega
  clear h hc hne hw hlt h0 hx
  generalize l[u] = x at *
  generalize placeL ws x = pl at *
  generalize ws.length = n at *
  go_enter Tryz.func317, Tryz.ntmps317
  go_wp2_with (go_at_call 318; refine HWT.out.mono ?_; rintro e w2 ⟨rfl, hk, hs⟩; have HK := Lib.hid hk; have HS2 := Lib.hid hs; clear hk hs)
  exact hR.out _ _ ⟨rfl, (Keeps.of_ext HX.out).trans HK.out, HS2.out⟩
end Go.Proofs.YtnpaikdaogikcaaGreatDoor
