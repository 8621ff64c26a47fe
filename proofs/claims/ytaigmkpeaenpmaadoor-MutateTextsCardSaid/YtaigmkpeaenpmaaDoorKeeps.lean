/- Every block but some stands. -/
import Derived.Test.YtaigmkpeaenpmaaDoorOwn
import Derived.BigRegion
namespace Go.Proofs.YtaigmkpeaenpmaaDoor
set_option maxRecDepth 100000
open Go.RowKit
set_option linter.unusedVariables false
set_option linter.unusedSimpArgs false

/-- Every block outside S stands. -/
structure Keeps (S : Nat → Prop) (w w' : World) : Prop where
  os : w'.os = w.os
  tape : w'.tape = w.tape
  output : w'.output = w.output
  size : w.heap.size ≤ w'.heap.size
  block : ∀ k, k < w.heap.size → ¬ S k → w'.heap[k]? = w.heap[k]?

theorem Keeps.refl (S : Nat → Prop) (w : World) : Keeps S w w := ⟨rfl, rfl, rfl, Nat.le_refl _, fun _ _ _ => rfl⟩
theorem Keeps.trans {S : Nat → Prop} {a b c : World} (h : Keeps S a b) (k : Keeps S b c) : Keeps S a c :=
  ⟨k.os.trans h.os, k.tape.trans h.tape, k.output.trans h.output, Nat.le_trans h.size k.size, fun i hi hs => (k.block i (Nat.lt_of_lt_of_le hi h.size) hs).trans (h.block i hi hs)⟩
theorem Keeps.mono {S S' : Nat → Prop} {a b : World} (h : Keeps S a b) (hs : ∀ k, k < a.heap.size → S k → S' k) : Keeps S' a b :=
  ⟨h.os, h.tape, h.output, h.size, fun k hk hn => h.block k hk fun e => hn (hs k hk e)⟩
theorem Keeps.of_ext {S : Nat → Prop} {a b : World} (h : Ext a b) : Keeps S a b := ⟨h.os, h.tape, h.output, h.size, fun k hk _ => h.block k hk⟩
theorem Keeps.of_grown {a b : World} {row : Option Nat} (h : a.grownBy b row) : Keeps (fun k => row = some k) a b :=
  ⟨h.os, h.tape, h.output, h.size, fun k hk hn => h.block k hk fun e => hn e.symm⟩
theorem Keeps.setCell {S : Nat → Prop} {a b : World} (h : Keeps S a b) {p : Addr} (hp : S p.block) (v : Value) : Keeps S a (b.setCell p v) :=
  ⟨h.os, h.tape, h.output, by simpa using h.size, fun k hk hn => (heap_setCell_other b p k v (fun e => hn (e ▸ hp))).trans (h.block k hk hn)⟩
theorem Keeps.drewN {S : Nat → Prop} {a b : World} (h : Keeps S a b) (q : Nat) : Keeps S a (b.drewN q) := ⟨h.os, h.tape, h.output, h.size, h.block⟩
theorem Keeps.ext {S : Nat → Prop} {a b : World} (h : Keeps S a b) (hs : ∀ k, k < a.heap.size → ¬ S k) : Ext a b := ⟨h.os, h.tape, h.output, h.size, fun k hk => h.block k hk (hs k hk)⟩
theorem Keeps.cell {S : Nat → Prop} {a b : World} (h : Keeps S a b) {p : Addr} {v : Value} (hs : ¬ S p.block) (hc : a.cell? p = some v) : b.cell? p = some v := by
  have hlt := lt_of_cell hc
  have := h.block _ hlt hs
  rw [← hc]
  unfold World.cell?
  rw [this]
theorem Keeps.own {S : Nat → Prop} {a b : World} (h : Keeps S a b) {base : Nat} {e : TypeId} {size n : Nat} {v : Value} {cs : List Value} (ho : a.ownsRow base e size v n cs) (hs : ∀ g, v.ownBlock = some g → ¬ S g) : b.ownsRow base e size v n cs := by
  cases hv : v.ownBlock with
  | none =>
    rcases ho.2 with h0 | ⟨g, cap, cur, rfl, _⟩
    · exact ⟨ho.1, .inl h0⟩
    · simp [Value.ownBlock] at hv
  | some g =>
    rcases ho.2 with h0 | ⟨g', cap, cur, rfl, hb, hg, hr⟩
    · exact ⟨ho.1, .inl h0⟩
    · simp only [Value.ownBlock, Option.some.injEq] at hv
      subst hv
      have hlt : g' < a.heap.size := (Array.getElem?_eq_some_iff.1 hg).1
      exact ⟨ho.1, .inr ⟨g', cap, cur, rfl, hb, (h.block g' hlt (hs g' rfl)).trans hg, hr⟩⟩

theorem Keeps.below {S : Nat → Prop} {w0 a b : World} (hx : Ext w0 a) (h : Keeps S a b) (hs : ∀ k, k < w0.heap.size → ¬ S k) : Ext w0 b :=
  ⟨h.os.trans hx.os, h.tape.trans hx.tape, h.output.trans hx.output, Nat.le_trans hx.size h.size, fun k hk => (h.block k (Nat.lt_of_lt_of_le hk hx.size) (hs k hk)).trans (hx.block k hk)⟩

theorem Keeps.frozen {S : Nat → Prop} {a b : World} (h : Keeps S a b) {p : Addr} (hl : p.block < a.heap.size) (hs : ¬ S p.block) : b.frozen? p = a.frozen? p := World.frozen?_of_block (h.block _ hl hs)
theorem Keeps.set (w : World) (p : Addr) (v : Value) : Keeps (fun b => b = p.block) w (w.setCell p v) := Keeps.setCell (S := fun b => b = p.block) (Keeps.refl _ w) (p := p) rfl _
end Go.Proofs.YtaigmkpeaenpmaaDoor
