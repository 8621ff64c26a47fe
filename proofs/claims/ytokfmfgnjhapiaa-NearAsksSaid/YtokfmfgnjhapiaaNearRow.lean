/- The row of sequences that near keeps as a heap: its methods, by value and through heap.Interface. -/
import Derived.Test.YtokfmfgnjhapiaaNearLeaf
import Derived.Test.YtokfmfgnjhapiaaRegion
import Derived.BigRegion
namespace Go.Proofs.Ytokfmfgnjhapiaa
open Go.RowKit
set_option linter.unusedVariables false
set_option linter.unusedSimpArgs false

theorem wrap_some {P : Program} (ts : Array TypeId) (ty : TypeId) (a : Addr) (x y : String) (w : World) : (Builtin.ssaWrapNilChk_ ts ty #[.pointer (some a), strVal x, strVal y]).run P w = .ok (.pointer (some a)) w := rfl

/-- A method of the value's, called through a pointer to it: the look-up reads the value. -/
theorem method_via {P : Program} {t e : TypeId} {name : String} {K : FuncId} {fuel : Nat} {a : Addr} {v : Value} {w : World}
    (h : (P.info? t).bind (fun i => (i.methods.find? (fun m => m.name == name)).map (fun m => (m.path, m.func))) = some (#[], some (K, false)))
    (ht : P.underlying t = some (.pointer e)) (hl : (loadVar e a).run P w = .ok v w) : (method (fuel + 1) t (.pointer (some a)) name).run P w = .ok (K, v) w := by
  obtain ⟨i, hi, h⟩ := Option.bind_eq_some_iff.1 h
  obtain ⟨m, hm, h⟩ := Option.map_eq_some_iff.1 h
  simp only [Prod.mk.injEq] at h
  obtain ⟨hp, hf⟩ := h
  unfold method
  simp [typeInfo, hi, hm, hp, hf, follow, receiverAt, run_underlying ht, Place.get, wrap_some, asAddr, hl]

theorem method_at {P : Program} {t e : TypeId} {name : String} {K : FuncId} {fuel : Nat} {a : Addr} {w : World}
    (h : (P.info? t).bind (fun i => (i.methods.find? (fun m => m.name == name)).map (fun m => (m.path, m.func))) = some (#[], some (K, true)))
    (ht : P.underlying t = some (.pointer e)) : (method (fuel + 1) t (.pointer (some a)) name).run P w = .ok (K, .pointer (some a)) w := by
  obtain ⟨i, hi, h⟩ := Option.bind_eq_some_iff.1 h
  obtain ⟨m, hm, h⟩ := Option.map_eq_some_iff.1 h
  simp only [Prod.mk.injEq] at h
  obtain ⟨hp, hf⟩ := h
  unfold method
  simp [typeInfo, hi, hm, hp, hf, follow, receiverAt, run_underlying ht, Place.get]

theorem load_row (r : Nat) (v : Value) (w : World) (hc : w.cell? ⟨r, 0, none⟩ = some v) : (loadVar 63 ⟨r, 0, none⟩).run Try.prog w = .ok v w := by
  have hs := Try.underlying63
  simp [go_sem, hc]

theorem len_row (A : Option Addr) (n c : Nat) (w : World) (hn : n ≤ maxLen) : Calls Try.prog 53 #[.slice A n c] w fun e w' => e = .returned (.int .i64 n) ∧ w' = w := by
  refine of_post fun R hR => ?_
  unfold maxLen at hn
  go_enter Try.func53, Try.ntmps53
  go_wp2_with fail
  exact hR.out _ _ ⟨rfl, rfl⟩

theorem meth_len (r : Nat) (v : Value) (w : World) (hc : w.cell? ⟨r, 0, none⟩ = some v) : (method 210 72 (.pointer (some ⟨r, 0, none⟩)) "Len").run Try.prog w = .ok (53, v) w :=
  method_via (e := 63) (by kernel_rfl) Try.underlying72 (load_row r v w hc)
theorem meth_less (r : Nat) (v : Value) (w : World) (hc : w.cell? ⟨r, 0, none⟩ = some v) : (method 210 72 (.pointer (some ⟨r, 0, none⟩)) "Less").run Try.prog w = .ok (81, v) w :=
  method_via (e := 63) (by kernel_rfl) Try.underlying72 (load_row r v w hc)
theorem meth_swap (r : Nat) (v : Value) (w : World) (hc : w.cell? ⟨r, 0, none⟩ = some v) : (method 210 72 (.pointer (some ⟨r, 0, none⟩)) "Swap").run Try.prog w = .ok (82, v) w :=
  method_via (e := 63) (by kernel_rfl) Try.underlying72 (load_row r v w hc)
theorem meth_push (a : Addr) (w : World) : (method 210 72 (.pointer (some a)) "Push").run Try.prog w = .ok (89, .pointer (some a)) w :=
  method_at (e := 63) (by kernel_rfl) Try.underlying72
theorem meth_pop (a : Addr) (w : World) : (method 210 72 (.pointer (some a)) "Pop").run Try.prog w = .ok (88, .pointer (some a)) w :=
  method_at (e := 63) (by kernel_rfl) Try.underlying72

theorem less_row (b o : Nat) (n c : Nat) (i k : Nat) (x y : IRow) (w : World) (hi : i < n) (hk : k < n) (hn : n ≤ 1000000)
    (h1 : w.cell? ⟨b, o + i, none⟩ = some x.val) (h2 : w.cell? ⟨b, o + k, none⟩ = some y.val) (hx : x.ok w) (hy : y.ok w) (hxn : x.xs.length ≤ maxLen) (hyn : y.xs.length ≤ maxLen) :
    Calls Try.prog 81 #[.slice (some ⟨b, o, none⟩) n c, .int .i64 i, .int .i64 k] w fun e w' => e = .returned (.bool (lessL x.xs y.xs)) ∧ Ext w w' := by
  refine of_post fun R hR => ?_
  have HO := fun q => Lib.hid (order_any x.A y.A x.xs y.xs _ _ x.c y.c (w.drewN q) (IS_of_cells hx) (IS_of_cells hy) rfl rfl hxn hyn)
  have HL := Lib.hid (ordL_less x.xs y.xs)
  unfold IRow.val at h1 h2
  clear hx hy
  unfold maxLen at hxn hyn
  generalize x.xs.length = nx at *
  generalize y.xs.length = ny at *
  generalize ordL x.xs y.xs = z at *
  go_enter Try.func81, Try.ntmps81
  go_wp2_with fail
  refine wp_region_tail 8 (by kernel_rfl) (by kernel_rfl) ?_
  simp only [List.take_succ_cons, List.take_zero, List.drop_succ_cons, List.drop_zero]
  repeat still_step
  refine wpStill_nil ?_
  go_wp2_with fail
  refine (HO 1).out.mono ?_
  rintro e w1 ⟨rfl, hx⟩
  have HX := Lib.hid (((Ext.refl' w).drewN' 1).trans' hx)
  clear hx
  go_wp2_with fail
  exact hR.out _ _ ⟨ret_bb rfl HL.out, HX.out⟩

theorem swap_row (g : Nat) (n c : Nat) (i k : Nat) (x y : IRow) (w : World) (hi : i < n) (hk : k < n) (hn : n ≤ 1000000)
    (h1 : w.cell? ⟨g, i, none⟩ = some x.val) (h2 : w.cell? ⟨g, k, none⟩ = some y.val) (f1 : w.frozen? ⟨g, i, none⟩ = false) (f2 : w.frozen? ⟨g, k, none⟩ = false) :
    Calls Try.prog 82 #[.slice (some ⟨g, 0, none⟩) n c, .int .i64 i, .int .i64 k] w fun e w' => (∃ v, e = .returned v) ∧ ∃ q, w' = ((w.setCell ⟨g, i, none⟩ y.val).setCell ⟨g, k, none⟩ x.val).drewN q := by
  refine of_post fun R hR => ?_
  unfold IRow.val at h1 h2 hR
  generalize x.xs.length = nx at *
  generalize y.xs.length = ny at *
  obtain ⟨u, hu⟩ : ∃ u, (w.setCell ⟨g, i, none⟩ (.slice y.A ny y.c)).cell? ⟨g, k, none⟩ = some u := by
    by_cases e : k = i
    · subst e; exact ⟨_, World.cell?_setCell_same' _ _ _ (by rw [h1]; rfl)⟩
    · exact ⟨_, (World.cell?_setCell_other _ _ _ _ (by simp [e])).trans h2⟩
  go_enter Try.func82, Try.ntmps82
  go_wp2_with fail
  go_region
  go_end0
  exact hR.out _ _ ⟨⟨_, rfl⟩, 1, rfl⟩

/-- Every block outside S stands. -/
structure Keeps (S : Nat → Prop) (w w' : World) : Prop where
  os : w'.os = w.os
  tape : w'.tape = w.tape
  output : w'.output = w.output
  size : w.heap.size ≤ w'.heap.size
  block : ∀ k, k < w.heap.size → ¬ S k → w'.heap[k]? = w.heap[k]?

theorem Keeps.refl (S : Nat → Prop) (w : World) : Keeps S w w := ⟨rfl, rfl, rfl, Nat.le_refl _, fun _ _ _ => rfl⟩
theorem Keeps.trans {S : Nat → Prop} {a b c : World} (h : Keeps S a b) (k : Keeps S b c) : Keeps S a c :=
  ⟨k.os.trans h.os, k.tape.trans h.tape, k.output.trans h.output, Nat.le_trans h.size k.size, fun i hi hs => (k.block i (Nat.lt_of_lt_of_le hi h.size) hs).trans (h.block i hi hs)⟩
theorem Keeps.mono {S S' : Nat → Prop} {a b : World} (h : Keeps S a b) (hs : ∀ k, k < a.heap.size → S k → S' k) : Keeps S' a b :=
  ⟨h.os, h.tape, h.output, h.size, fun k hk hn => h.block k hk fun e => hn (hs k hk e)⟩
theorem Keeps.of_ext {S : Nat → Prop} {a b : World} (h : Ext a b) : Keeps S a b := ⟨h.os, h.tape, h.output, h.size, fun k hk _ => h.block k hk⟩
theorem Keeps.of_grown {a b : World} {row : Option Nat} (h : a.grownBy b row) : Keeps (fun k => row = some k) a b :=
  ⟨h.os, h.tape, h.output, h.size, fun k hk hn => h.block k hk fun e => hn e.symm⟩
theorem Keeps.setCell {S : Nat → Prop} {a b : World} (h : Keeps S a b) {p : Addr} (hp : S p.block) (v : Value) : Keeps S a (b.setCell p v) :=
  ⟨h.os, h.tape, h.output, by simpa using h.size, fun k hk hn => (heap_setCell_other b p k v (fun e => hn (e ▸ hp))).trans (h.block k hk hn)⟩
theorem Keeps.drewN {S : Nat → Prop} {a b : World} (h : Keeps S a b) (q : Nat) : Keeps S a (b.drewN q) := ⟨h.os, h.tape, h.output, h.size, h.block⟩
theorem Keeps.ext {S : Nat → Prop} {a b : World} (h : Keeps S a b) (hs : ∀ k, k < a.heap.size → ¬ S k) : Ext a b := ⟨h.os, h.tape, h.output, h.size, fun k hk => h.block k hk (hs k hk)⟩
theorem Keeps.cell {S : Nat → Prop} {a b : World} (h : Keeps S a b) {p : Addr} {v : Value} (hs : ¬ S p.block) (hc : a.cell? p = some v) : b.cell? p = some v := by
  have hlt := lt_of_cell hc
  have := h.block _ hlt hs
  rw [← hc]
  unfold World.cell?
  rw [this]
theorem Keeps.ok {S : Nat → Prop} {a b : World} (h : Keeps S a b) {e : IRow} (he : e.ok a) (hs : ∀ x, e.A = some x → e.xs ≠ [] → ¬ S x.block) : e.ok b := fun hn => by
  obtain ⟨bl, o, e1, hc⟩ := he hn
  exact ⟨bl, o, e1, fun k u hu => h.cell (p := ⟨bl, o + k, none⟩) (show ¬ S bl from hs ⟨bl, o, none⟩ e1 (by simpa using hn)) (hc k u hu)⟩
theorem Keeps.own {S : Nat → Prop} {a b : World} (h : Keeps S a b) {base : Nat} {e : TypeId} {size n : Nat} {v : Value} {cs : List Value} (ho : a.ownsRow base e size v n cs) (hs : ∀ g, v.ownBlock = some g → ¬ S g) : b.ownsRow base e size v n cs := by
  cases hv : v.ownBlock with
  | none =>
    rcases ho.2 with h0 | ⟨g, cap, cur, rfl, _⟩
    · exact ⟨ho.1, .inl h0⟩
    · simp [Value.ownBlock] at hv
  | some g =>
    rcases ho.2 with h0 | ⟨g', cap, cur, rfl, hb, hg, hr⟩
    · exact ⟨ho.1, .inl h0⟩
    · simp only [Value.ownBlock, Option.some.injEq] at hv
      subst hv
      have hlt : g' < a.heap.size := (Array.getElem?_eq_some_iff.1 hg).1
      exact ⟨ho.1, .inr ⟨g', cap, cur, rfl, hb, (h.block g' hlt (hs g' rfl)).trans hg, hr⟩⟩

theorem infoInts : (Try.prog.info? 24).map (fun i => (i.zero, i.size, i.bytes)) = some (some (.slice none 0 0), 1, 24) := by kernel_rfl

/-- The row behind a pointer: one cell, and the slice in it, which is its own. -/
structure RowCell (w : World) (r : Nat) (v : Value) (H : List IRow) : Prop where
  cell : w.cell? ⟨r, 0, none⟩ = some v
  soft : w.frozen? ⟨r, 0, none⟩ = false
  own : w.ownsRow 0 24 1 v H.length (H.map IRow.val)
  apart : v.ownBlock ≠ some r

theorem assert_ints (a : Option Addr) (n c : Nat) (w : World) : (Instr.typeAssert (.iface 24 (.slice a n c)) 20 24 true).run Try.prog w = .ok (.tuple #[.slice a n c, .bool true]) w := by kernel_rfl

theorem push_row (r : Nat) (v : Value) (H : List IRow) (x : IRow) (w : World) (h : RowCell w r v H) (hn : H.length ≤ 100000) :
    Calls Try.prog 89 #[.pointer (some ⟨r, 0, none⟩), .iface 24 x.val] w fun e w' => (∃ u, e = .returned u) ∧ ∃ v', RowCell w' r v' (H ++ [x]) ∧ Keeps (fun k => k = r ∨ v.ownBlock = some k) w w' ∧ (v'.ownBlock = v.ownBlock ∨ ∃ g, v'.ownBlock = some g ∧ w.heap.size ≤ g) := by
  refine of_post fun R hR => ?_
  obtain ⟨i0, hi, hz0, hz1, hz2⟩ := info_parts infoInts
  obtain ⟨hc, hs, ho, ha⟩ := h
  have HO := Lib.hid ho
  have HA := Lib.hid ha
  have hlt := lt_of_cell hc
  have hb1 : (H.length + 1) * 24 ≤ 140737488355328 := by omega
  have hb2 : H.length + 1 ≤ maxLen := by unfold maxLen; omega
  clear ho ha
  have hta := fun W => assert_ints x.A x.xs.length x.c W
  unfold IRow.val
  generalize hnx : x.xs.length = nx at *
  have Hnx := Lib.hid hnx
  clear hnx
  go_enter Try.func89, Try.ntmps89
  go_wp2_with (at_builtin; go_loud (refine wpList_append_src (w.alloc (.cells #[.slice x.A nx x.c] 24)) rfl _ _ 63 rfl 0 24 i0 (.slice none 0 0) 1 24 Try.underlying63 hi hz0 hz1 hz2 rfl (by decide) v H.length _ rfl (HO.out.alloc _) _ 1 1 [.slice x.A nx x.c] rfl (by simp) (cellsAt_new w [_] 24) (by intro u hu; simp only [List.mem_singleton] at hu; subst hu; rfl) hb1 hb2 (by simp) ?_; intro u' w2 hO1 hG1 hB1; obtain ⟨gu, cu, rfl, _, _⟩ := hO1.form (by omega); have k1 : w2.cell? ⟨r, 0, none⟩ = some v := hG1.cell (a := ⟨r, 0, none⟩) ((((Ext.refl' w).alloc' _).cell' hc)) (fun e => HA.out e.symm); have k2 : w2.frozen? ⟨r, 0, none⟩ = false := (World.frozen?_of_block (hG1.block r (Nat.lt_of_lt_of_le hlt ((Ext.refl' w).alloc' _).size) (fun e => HA.out e.symm))).trans ((World.frozen?_of_block (heap_alloc_old w _ hlt)).trans hs); have HO1 := Lib.hid hO1; have HG1 := Lib.hid hG1; have HB1 := Lib.hid hB1; clear hO1 hG1 hB1 hc hs))
  go_end0
  have hgu : gu ≠ r ∧ ((Value.slice (some ⟨gu, 0, none⟩) (H.length + 1) cu).ownBlock = v.ownBlock ∨ ∃ g, (Value.slice (some ⟨gu, 0, none⟩) (H.length + 1) cu).ownBlock = some g ∧ w.heap.size ≤ g) := by
    rcases HB1.out with e | e
    · exact ⟨fun h => HA.out (by rw [← e, h]; rfl), .inl e⟩
    · refine ⟨fun h => ?_, .inr ⟨_, e, by simp⟩⟩
      simp [Value.ownBlock] at e
      omega
  have hk := (Keeps.of_ext (S := fun k => k = r ∨ v.ownBlock = some k) ((Ext.refl' w).alloc' (.cells #[.slice x.A nx x.c] 24))).trans ((Keeps.of_grown HG1.out).mono fun k _ h => .inr h)
  refine hR.out _ _ ⟨⟨_, rfl⟩, _, ⟨World.cell?_setCell_same' _ _ _ (by rw [k1]; rfl), by simpa using k2, ?_, ?_⟩, hk.setCell (.inl rfl) _, hgu.2⟩
  · have := (Keeps.refl (fun k => k = r) w2).setCell (p := ⟨r, 0, none⟩) rfl (.slice (some ⟨gu, 0, none⟩) (H.length + 1) cu)
    have := this.own HO1.out (fun g e => by cases e; exact hgu.1)
    simpa [IRow.val, Hnx.out] using this
  · intro e
    cases e
    exact hgu.1 rfl

theorem pop_row (r g : Nat) (n c : Nat) (H : List IRow) (x : IRow) (w : World) (h : RowCell w r (.slice (some ⟨g, 0, none⟩) (n + 1) c) (H ++ [x])) (hH : H.length = n) (hn : n ≤ 100000) :
    Calls Try.prog 88 #[.pointer (some ⟨r, 0, none⟩)] w fun e w' => e = .returned (.iface 24 x.val) ∧ RowCell w' r (.slice (some ⟨g, 0, none⟩) n c) H ∧ Keeps (fun k => k = r) w w' := by
  refine of_post fun R hR => ?_
  obtain ⟨hc, hs, ho, ha⟩ := h
  have ho' : w.ownsRow 0 24 1 (.slice (some ⟨g, 0, none⟩) (n + 1) c) (n + 1) (H.map IRow.val ++ [x.val]) := by simpa [hH] using ho
  have hp := ownsRow_pop (xs := H.map IRow.val) (by simp [hH]) ho'
  have q1 := ho'.cellAt n (by omega)
  have hq : (H.map IRow.val ++ [x.val])[n]? = some x.val := by
    rw [List.getElem?_append_right (by simp [hH])]; simp [hH]
  rw [hq] at q1
  have HP := Lib.hid hp
  have hle := own_le ho'
  have HH := Lib.hid hH
  clear ho ho' hp hq hH
  have HA := Lib.hid ha
  clear ha
  unfold IRow.val at q1 hR
  generalize x.xs.length = nx at *
  go_enter Try.func88, Try.ntmps88
  go_wp2_with fail
  have hgr : g ≠ r := fun e => HA.out (by rw [e]; rfl)
  refine hR.out _ _ ⟨rfl, ⟨World.cell?_setCell_same' _ _ _ (by rw [hc]; rfl), by simpa using hs, ?_, ?_⟩, (Keeps.refl (fun k => k = r) w).setCell (p := ⟨r, 0, none⟩) rfl _⟩
  · have := (Keeps.refl (fun k => k = r) w).setCell (p := ⟨r, 0, none⟩) rfl (.slice (some ⟨g, 0, none⟩) n c)
    rw [HH.out]
    exact this.own HP.out (fun k e => by cases e; exact hgr)
  · intro e
    cases e
    exact hgr rfl
end Go.Proofs.Ytokfmfgnjhapiaa
