/- What is told out of a heap, each once, in order: in plain words. -/
import Derived.Test.YtokfmfgnjhapiaaNearChanges
namespace Go.Proofs.Ytokfmfgnjhapiaa
open Go.RowKit
set_option linter.unusedVariables false
set_option linter.unusedSimpArgs false

/-- In order, none twice. -/
def Rising (D : List (List Int)) : Prop := D.Pairwise fun a b => lessL a b = true
theorem lessL_ne {a b : List Int} (h : lessL a b = true) : a ≠ b := fun e => by rw [e, lessL_self] at h; cases h

/-- What is yet to be told stands in the heap; what stands there is yet to be told, or was told last. -/
structure EInv (pre rest K : List (List Int)) : Prop where
  there : ∀ y ∈ rest, y ∈ K
  known : ∀ y ∈ K, y ∈ rest ∨ pre.getLast? = some y

theorem EInv.done {pre rest : List (List Int)} (h : EInv pre rest []) : rest = [] := by
  cases rest with
  | nil => rfl
  | cons a l => exact absurd (h.there a (by simp)) (by simp)
theorem EInv.same {pre rest K K' : List (List Int)} {x : List Int} (h : EInv pre rest K) (hr : Rising (pre ++ rest)) (hk : K.Perm (x :: K')) (hl : pre.getLast? = some x) : EInv pre rest K' where
  there y hy := by
    have h1 := hk.mem_iff.1 (h.there y hy)
    rcases List.mem_cons.1 h1 with rfl | h1
    · have hx : y ∈ pre := List.mem_of_getLast? hl
      exact absurd rfl (lessL_ne ((List.pairwise_append.1 hr).2.2 y hx y hy))
    · exact h1
  known y hy := h.known y (hk.mem_iff.2 (List.mem_cons_of_mem _ hy))
theorem EInv.next {pre rest K K' : List (List Int)} {x : List Int} (h : EInv pre rest K) (hr : Rising (pre ++ rest)) (hk : K.Perm (x :: K')) (hm : ∀ y ∈ K', lessL y x = false) (hl : pre.getLast? ≠ some x) :
    ∃ rest', rest = x :: rest' ∧ EInv (pre ++ [x]) rest' K' := by
  have hx : x ∈ rest := (h.known x (hk.mem_iff.2 (by simp))).resolve_right hl
  have hrr := List.pairwise_append.1 hr
  cases rest with
  | nil => cases hx
  | cons a t =>
    have hat := List.pairwise_cons.1 hrr.2.1
    have hxa : x = a := by
      rcases List.mem_cons.1 hx with e | e
      · exact e
      · have h1 := hat.1 x e
        rcases List.mem_cons.1 (hk.mem_iff.1 (h.there a (by simp))) with e2 | e2
        · exact e2.symm
        · rw [hm a e2] at h1; cases h1
    subst hxa
    refine ⟨t, rfl, fun y hy => ?_, fun y hy => ?_⟩
    · rcases List.mem_cons.1 (hk.mem_iff.1 (h.there y (by simp [hy]))) with e | e
      · exact absurd e.symm (lessL_ne (hat.1 y hy))
      · exact e
    · rcases h.known y (hk.mem_iff.2 (List.mem_cons_of_mem _ hy)) with e | e
      · rcases List.mem_cons.1 e with e | e
        · subst e; exact .inr (by simp)
        · exact .inl e
      · have h1 := hrr.2.2 y (List.mem_of_getLast? e) x (by simp)
        rw [hm y hy] at h1; cases h1

/-- The row and its blocks, all of them in T. -/
structure Held (T : Nat → Prop) (w : World) (r : Nat) (v : Value) (H : List IRow) : Prop where
  row : Row w r v H
  here : T r
  own : ∀ g, v.ownBlock = some g → T g
  ents : ∀ e ∈ H, ∀ b, blk e = some b → T b
  apart : H.Pairwise apart
  heap : HeapN (keyOf H) H.length
  lt : ∀ b, T b → b < w.heap.size
  soft : ∀ e ∈ H, Soft w e

theorem Held.pop {T : Nat → Prop} {w w' : World} {r : Nat} {v : Value} {H : List IRow} {x : IRow} (h : Held T w r v H) (hp : PopPost w w' r v H x) :
    ∃ v' H', Held T w' r v' H' ∧ H.Perm (x :: H') ∧ (∀ e ∈ H', lessL e.xs x.xs = false) ∧ Fresh 0 w' x ∧ (∀ b, blk x = some b → T b ∧ b ≠ r ∧ v'.ownBlock ≠ some b) ∧ (∀ e ∈ H', Go.Proofs.Ytokfmfgnjhapiaa.apart x e) ∧ Keeps (fun k => k = r ∨ v'.ownBlock = some k) w w' ∧ v'.ownBlock = v.ownBlock := by
  obtain ⟨v', H', hr, hpm, hh, hm, hk, hv⟩ := hp
  have hxm : x ∈ H := hpm.mem_iff.2 (by simp)
  have hap := (hpm.pairwise_iff (fun {x y} hxy => apart_symm hxy)).1 h.apart
  have hap2 := List.pairwise_cons.1 hap
  obtain ⟨a, b, c, d⟩ := h.row.ents x hxm
  refine ⟨v', H', ⟨hr, h.here, fun g hg => h.own g (hv ▸ hg), fun e he => h.ents e (hpm.mem_iff.2 (List.mem_cons_of_mem _ he)), hap2.2, hh, fun b hb => Nat.lt_of_lt_of_le (h.lt b hb) hk.size, fun e he => ?_⟩, hpm, hm,
    ⟨hk.ok a fun y hy hn hs => ?_, b, c, fun b _ => Nat.zero_le b, (h.soft x hxm).keeps a hk fun b hb q => q.elim (d b hb).1 (d b hb).2⟩, fun b hb => ⟨h.ents x hxm b hb, (d b hb).1, by rw [hv]; exact (d b hb).2⟩, hap2.1, by rw [hv]; exact hk, hv⟩
  · have hem : e ∈ H := hpm.mem_iff.2 (List.mem_cons_of_mem _ he)
    obtain ⟨a2, _, _, d2⟩ := h.row.ents e hem
    exact (h.soft e hem).keeps a2 hk fun b hb q => q.elim (d2 b hb).1 (d2 b hb).2
  · have := d _ (blk_some hy hn)
    rcases hs with q | q
    · exact this.1 q
    · exact this.2 q

/-- A round that keeps T but the block it was handed. -/
theorem Held.round {T : Nat → Prop} {w w' : World} {r : Nat} {v : Value} {H : List IRow} {x : IRow} (h : Held T w r v H) (hx : ∀ b, blk x = some b → b ≠ r ∧ v.ownBlock ≠ some b) (ha : ∀ e ∈ H, Go.Proofs.Ytokfmfgnjhapiaa.apart x e)
    (hk : Keeps (fun b => ¬ T b ∨ blk x = some b) w w') : Held T w' r v H :=
  ⟨h.row.keeps hk (fun q => q.elim (fun q => q h.here) fun q => (hx r q).1 rfl) (fun g hg q => q.elim (fun q => q (h.own g hg)) fun q => (hx g q).2 hg)
      (fun e he b hb q => q.elim (fun q => q (h.ents e he b hb)) fun q => ha e he b q hb),
    h.here, h.own, h.ents, h.apart, h.heap, fun b hb => Nat.lt_of_lt_of_le (h.lt b hb) hk.size,
    fun e he => (h.soft e he).keeps (h.row.ents e he).1 hk fun b hb q => q.elim (fun q => q (h.ents e he b hb)) fun q => ha e he b q hb⟩
theorem Held.on {T T' : Nat → Prop} {w w' : World} {r : Nat} {v : Value} {H : List IRow} (h : Held T w r v H) (hx : Ext w w') (ht : ∀ b, T b → T' b) (hl : ∀ b, T' b → b < w'.heap.size) : Held T' w' r v H :=
  ⟨h.row.ext hx, ht _ h.here, fun g hg => ht _ (h.own g hg), fun e he b hb => ht _ (h.ents e he b hb), h.apart, h.heap, hl, fun e he => (h.soft e he).on (h.row.ents e he).1 hx⟩

/-- What a call of yield leaves: the caller's state goes on, T stands but for the block that was handed over; or the caller has said 'no more'. -/
def YPost (J : List (List Int) → (Nat → Prop) → World → Prop) (Jx : List (List Int) → World → Prop) (pre : List (List Int)) (T : Nat → Prop) (e : IRow) (W : World) (q : Ending) (W' : World) : Prop :=
  (q = .returned (.bool true) ∧ J (pre ++ [e.xs]) T W' ∧ Keeps (fun b => ¬ T b ∨ blk e = some b) W W') ∨ (q = .returned (.bool false) ∧ Jx (pre ++ [e.xs]) W')
/-- What each leaves. -/
def EPost (J : List (List Int) → (Nat → Prop) → World → Prop) (Jx : List (List Int) → World → Prop) (ALL D : List (List Int)) (q : Ending) (W' : World) : Prop :=
  (q = .returned (.bool true) ∧ ∃ T', J D T' W' ∧ ∀ b, T' b → b < W'.heap.size) ∨ (q = .returned (.bool false) ∧ ∃ pre, pre <+: ALL ∧ Jx pre W')
def Steady (J : List (List Int) → (Nat → Prop) → World → Prop) : Prop :=
  ∀ pre T T' W W', J pre T W → Keeps T W W' → (∀ b, T' b → T b ∨ W.heap.size ≤ b) → J pre T' W'

/-- A round of each begins. -/
structure ESt (J : List (List Int) → (Nat → Prop) → World → Prop) (p0 D : List (List Int)) (r : Nat) (pre rest : List (List Int)) (T : Nat → Prop) (v : Value) (H : List IRow) (q : IRow) (w : World) : Prop where
  all : D = pre ++ rest
  last : pre ≠ [] → pre.getLast? = some q.xs
  fresh : Fresh 0 w q
  out : ∀ b, blk q = some b → T b ∧ b ≠ r ∧ v.ownBlock ≠ some b
  held : Held T w r v H
  inv : EInv pre rest (H.map IRow.xs)
  st : J (p0 ++ pre) T w
  few : H.length ≤ 100000

theorem ESt.init {J : List (List Int) → (Nat → Prop) → World → Prop} {p0 D : List (List Int)} {r : Nat} {T : Nat → Prop} {v : Value} {H : List IRow} {w : World} (hH : Held T w r v H) (hE : EInv [] D (H.map IRow.xs)) (h0 : J p0 T w) (hn : H.length ≤ 100000) :
    ESt J p0 D r [] D T v H ⟨none, 0, []⟩ w :=
  ⟨rfl, fun h => absurd rfl h, ⟨CellsAt.nil _ _, Nat.le_refl _, Nat.zero_le _, fun _ _ => Nat.zero_le _, fun b hb => by simp [blk] at hb⟩, fun b hb => by simp [blk] at hb, hH, hE, by simpa using h0, hn⟩

/-- Behind the pop of x. -/
structure Popped (J : List (List Int) → (Nat → Prop) → World → Prop) (p0 D : List (List Int)) (r : Nat) (pre rest : List (List Int)) (T : Nat → Prop) (v : Value) (H : List IRow) (q x : IRow) (w : World) : Prop where
  all : D = pre ++ rest
  last : pre ≠ [] → pre.getLast? = some q.xs
  fresh : Fresh 0 w q
  out : ∀ b, blk q = some b → T b ∧ b ≠ r ∧ v.ownBlock ≠ some b
  held : Held T w r v H
  st : J (p0 ++ pre) T w
  few : H.length + 1 ≤ 100000
  xfresh : Fresh 0 w x
  xout : ∀ b, blk x = some b → T b ∧ b ≠ r ∧ v.ownBlock ≠ some b
  xapart : ∀ e ∈ H, Go.Proofs.Ytokfmfgnjhapiaa.apart x e
  same : pre.getLast? = some x.xs → EInv pre rest (H.map IRow.xs)
  next : pre.getLast? ≠ some x.xs → ∃ rest', rest = x.xs :: rest' ∧ EInv (pre ++ [x.xs]) rest' (H.map IRow.xs)

theorem Fresh.keeps {S : Nat → Prop} {base : Nat} {w w' : World} {e : IRow} (h : Fresh base w e) (hk : Keeps S w w') (hs : ∀ b, blk e = some b → ¬ S b) : Fresh base w' e :=
  ⟨hk.ok h.ok fun x hx hn => hs _ (blk_some hx hn), h.le, h.cap, h.new, h.soft.keeps h.ok hk hs⟩

theorem ESt.pop {J : List (List Int) → (Nat → Prop) → World → Prop} {p0 D : List (List Int)} {r : Nat} {pre rest : List (List Int)} {T : Nat → Prop} {v : Value} {H : List IRow} {q x : IRow} {w w' : World}
    (h : ESt J p0 D r pre rest T v H q w) (hJ : Steady J) (hr : Rising D) (hp : PopPost w w' r v H x) : ∃ v' H', H'.length + 1 = H.length ∧ Popped J p0 D r pre rest T v' H' q x w' := by
  obtain ⟨v', H', hh, hpm, hm, hf, ho, ha, hk, hv⟩ := h.held.pop hp
  have hkt : Keeps T w w' := hk.mono fun k _ e => by
    rcases e with rfl | e
    · exact h.held.here
    · exact h.held.own k (hv ▸ e)
  have hl : H'.length + 1 = H.length := by have := hpm.length_eq; simpa using this.symm
  have hkm : (H.map IRow.xs).Perm (x.xs :: H'.map IRow.xs) := by simpa using hpm.map IRow.xs
  refine ⟨v', H', hl, h.all, h.last, h.fresh.keeps hk fun b hb e => ?_, fun b hb => ⟨(h.out b hb).1, (h.out b hb).2.1, by rw [hv]; exact (h.out b hb).2.2⟩, hh, hJ _ _ _ _ _ h.st hkt fun b hb => .inl hb, by have := h.few; omega, hf, ho, ha,
    fun e => h.inv.same (h.all ▸ hr) hkm e, fun e => h.inv.next (h.all ▸ hr) hkm (fun y hy => ?_) e⟩
  · rcases e with e | e
    · exact (h.out b hb).2.1 e
    · exact (h.out b hb).2.2 (hv ▸ e)
  · obtain ⟨z, hz, rfl⟩ := List.mem_map.1 hy
    exact hm z hz

theorem Popped.again {J : List (List Int) → (Nat → Prop) → World → Prop} {p0 D : List (List Int)} {r : Nat} {pre rest : List (List Int)} {T : Nat → Prop} {v : Value} {H : List IRow} {q x : IRow} {w w' : World}
    (h : Popped J p0 D r pre rest T v H q x w) (hJ : Steady J) (hl : pre.getLast? = some x.xs) (hx : Ext w w') : ESt J p0 D r pre rest T v H q w' :=
  ⟨h.all, h.last, h.fresh.on hx, h.out, h.held.on hx (fun _ h => h) (fun b hb => Nat.lt_of_lt_of_le (h.held.lt b hb) hx.size), h.same hl, hJ _ _ _ _ _ h.st (Keeps.of_ext hx) fun b hb => .inl hb, by have := h.few; omega⟩

/-- T and the blocks that have just been laid. -/
def grow (T : Nat → Prop) (a b : World) : Nat → Prop := fun k => T k ∨ (a.heap.size ≤ k ∧ k < b.heap.size)

/-- Behind the copy of x, ahead of yield. -/
structure Ready (J : List (List Int) → (Nat → Prop) → World → Prop) (p0 D : List (List Int)) (r : Nat) (pre rest : List (List Int)) (T : Nat → Prop) (v : Value) (H : List IRow) (c x : IRow) (w : World) : Prop where
  all : D = pre ++ x.xs :: rest
  fresh : Fresh 0 w c
  same : c.xs = x.xs
  out : ∀ b, blk c = some b → T b ∧ b ≠ r ∧ v.ownBlock ≠ some b ∧ blk x ≠ some b
  held : Held T w r v H
  st : J (p0 ++ pre) T w
  few : H.length + 1 ≤ 100000
  xfresh : Fresh 0 w x
  xout : ∀ b, blk x = some b → T b ∧ b ≠ r ∧ v.ownBlock ≠ some b
  xapart : ∀ e ∈ H, Go.Proofs.Ytokfmfgnjhapiaa.apart x e
  inv : EInv (pre ++ [x.xs]) rest (H.map IRow.xs)

theorem Popped.copied {J : List (List Int) → (Nat → Prop) → World → Prop} {p0 D : List (List Int)} {r : Nat} {pre rest : List (List Int)} {T : Nat → Prop} {v : Value} {H : List IRow} {q x c : IRow} {w w1 w2 : World}
    (h : Popped J p0 D r pre rest T v H q x w) (hJ : Steady J) (hl : pre.getLast? ≠ some x.xs) (hx1 : Ext w w1) (hx2 : Ext w1 w2) (hc : Fresh w1.heap.size w2 c) (hcx : c.xs = x.xs) :
    ∃ rest', Ready J p0 D r pre rest' (grow T w w2) v H c x w2 := by
  obtain ⟨rest', hrest, hinv⟩ := h.next hl
  have hx := hx1.trans' hx2
  have hlt : ∀ b, grow T w w2 b → b < w2.heap.size := fun b hb => hb.elim (fun q => Nat.lt_of_lt_of_le (h.held.lt b q) hx.size) fun q => q.2
  refine ⟨rest', by rw [h.all, hrest], ⟨hc.ok, hc.le, hc.cap, fun b _ => Nat.zero_le b, hc.soft⟩, hcx, fun b hb => ?_, h.held.on hx (fun b hb => .inl hb) hlt, hJ _ _ _ _ _ h.st (Keeps.of_ext hx) fun b hb => hb.imp id fun q => q.1, h.few, h.xfresh.on hx,
    fun b hb => ⟨.inl (h.xout b hb).1, (h.xout b hb).2⟩, h.xapart, hinv⟩
  have h1 := hc.new b hb
  have h2 := blk_lt hc.ok hb
  have h3 := hx1.size
  refine ⟨.inr ⟨by omega, h2⟩, fun e => ?_, fun e => ?_, fun e => ?_⟩
  · have := h.held.lt r h.held.here; omega
  · have := h.held.lt b (h.held.own b e); omega
  · have := h.held.lt b (h.xout b e).1; omega

theorem Ready.round {J : List (List Int) → (Nat → Prop) → World → Prop} {p0 D : List (List Int)} {r : Nat} {pre rest : List (List Int)} {T : Nat → Prop} {v : Value} {H : List IRow} {c x : IRow} {w w' : World}
    (h : Ready J p0 D r pre rest T v H c x w) (hj : J ((p0 ++ pre) ++ [x.xs]) T w') (hk : Keeps (fun b => ¬ T b ∨ blk x = some b) w w') : ESt J p0 D r (pre ++ [x.xs]) rest T v H c w' :=
  ⟨by rw [h.all]; simp, fun _ => by simp [h.same], h.fresh.keeps hk fun b hb e => e.elim (fun q => q (h.out b hb).1) (h.out b hb).2.2.2, fun b hb => ⟨(h.out b hb).1, (h.out b hb).2.1, (h.out b hb).2.2.1⟩,
    h.held.round (fun b hb => (h.xout b hb).2) h.xapart hk, h.inv, by rw [← List.append_assoc]; exact hj, by have := h.few; omega⟩
end Go.Proofs.Ytokfmfgnjhapiaa
