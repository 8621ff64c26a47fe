/- near's row: what is put in by spans: all that comes of leaving out so many. -/
import Derived.Test.YtokfmfgnjhapiaaNearHeap
import Derived.Deep.RegionHeld3
namespace Go.Proofs.Ytokfmfgnjhapiaa
open Go.RowKit
set_option linter.unusedVariables false
set_option linter.unusedSimpArgs false

def apart (x y : IRow) : Prop := ∀ b, blk x = some b → blk y ≠ some b
theorem apart_symm {x y : IRow} (h : apart x y) : apart y x := fun b hb e => h b e hb

/-- An entry's cells may be written. -/
def Soft (w : World) (e : IRow) : Prop := ∀ b, blk e = some b → ∀ j, w.frozen? ⟨b, j, none⟩ = false
theorem Soft.keeps {S : Nat → Prop} {w w' : World} {e : IRow} (h : Soft w e) (hok : e.ok w) (hk : Keeps S w w') (hs : ∀ b, blk e = some b → ¬ S b) : Soft w' e :=
  fun b hb j => (World.frozen?_of_block (hk.block b (blk_lt hok hb) (hs b hb))).trans (h b hb j)
theorem Soft.on {w w' : World} {e : IRow} (h : Soft w e) (hok : e.ok w) (hx : Ext w w') : Soft w' e :=
  fun b hb j => (World.frozen?_of_block (hx.block b (blk_lt hok hb))).trans (h b hb j)

/-- A row whose blocks are all new since w0, its sequences L in some order, a heap. -/
structure Built (w0 w : World) (r : Nat) (v : Value) (H : List IRow) (L : List (List Int)) : Prop where
  row : Row w r v H
  ext : Ext w0 w
  here : w0.heap.size ≤ r
  own : ∀ g, v.ownBlock = some g → w0.heap.size ≤ g
  ents : ∀ e ∈ H, ∀ b, blk e = some b → w0.heap.size ≤ b
  apart : H.Pairwise apart
  perm : (H.map IRow.xs).Perm L
  heap : HeapN (keyOf H) H.length
  soft : ∀ e ∈ H, Soft w e

theorem Built.on {w0 w w' : World} {r : Nat} {v : Value} {H : List IRow} {L : List (List Int)} (h : Built w0 w r v H L) (hx : Ext w w') : Built w0 w' r v H L :=
  ⟨h.row.ext hx, h.ext.trans' hx, h.here, h.own, h.ents, h.apart, h.perm, h.heap, fun e he => (h.soft e he).on (h.row.ents e he).1 hx⟩

/-- A sequence of the call's own, as an entry. -/
structure Fresh (base : Nat) (w : World) (e : IRow) : Prop where
  ok : e.ok w
  le : e.xs.length ≤ e.c
  cap : e.c ≤ maxLen
  new : ∀ b, blk e = some b → base ≤ b
  soft : Soft w e
theorem Fresh.on {base : Nat} {w w' : World} {e : IRow} (h : Fresh base w e) (hx : Ext w w') : Fresh base w' e := ⟨CellsAt.ext h.ok hx, h.le, h.cap, h.new, h.soft.on h.ok hx⟩

theorem fresh_of_own {w : World} {base n : Nat} {v : Value} {xs : List Int} (h : w.ownsRow base 3 1 v n (xs.map I64)) (hn : xs.length = n) : ∃ e : IRow, v = e.val ∧ e.xs = xs ∧ Fresh base w e := by
  subst hn
  obtain ⟨A, c, rfl⟩ := own_form h
  refine ⟨⟨A, c, xs⟩, rfl, rfl, cellsAt_of_own h, ?_, ?_, fun b hb => ?_, fun b hb j => ?_⟩
  · rcases h.2 with ⟨h1, h2⟩ | ⟨g, cap, cur, h1, _, _, h2, _⟩
    · simp only [Value.slice.injEq] at h1; simp only at *; omega
    · simp only [Value.slice.injEq] at h1; simp only at *; omega
  · rcases h.2 with ⟨h1, h2⟩ | ⟨g, cap, cur, h1, _, _, _, h2, _⟩
    · simp only [Value.slice.injEq] at h1; simp only at *; omega
    · simp only [Value.slice.injEq] at h1; simp only at *; omega
  · unfold blk at hb
    split at hb
    · cases hb
    · cases A with
      | none => cases hb
      | some a =>
        simp only [Option.map_some, Option.some.injEq] at hb
        exact (h.lt b (by simp [Value.ownBlock, hb])).1
  · unfold blk at hb
    split at hb
    · cases hb
    · cases A with
      | none => cases hb
      | some a =>
        simp only [Option.map_some, Option.some.injEq] at hb
        obtain ⟨c', he⟩ := own_some h (g0 := b) (by simp [Value.ownBlock, hb])
        rw [he] at h
        exact h.frozenAt j

theorem Keeps.below {S : Nat → Prop} {w0 a b : World} (hx : Ext w0 a) (h : Keeps S a b) (hs : ∀ k, k < w0.heap.size → ¬ S k) : Ext w0 b :=
  ⟨h.os.trans hx.os, h.tape.trans hx.tape, h.output.trans hx.output, Nat.le_trans hx.size h.size, fun k hk => (h.block k (Nat.lt_of_lt_of_le hk hx.size) (hs k hk)).trans (hx.block k hk)⟩

theorem Built.push {w0 w w1 w2 : World} {r : Nat} {v : Value} {H : List IRow} {L : List (List Int)} {e : IRow} (h : Built w0 w r v H L) (hx : Ext w w1) (he : Fresh w.heap.size w1 e) (hp : PushPost w1 w2 r v H e) :
    ∃ v' H', Built w0 w2 r v' H' (L ++ [e.xs]) := by
  obtain ⟨v', H', hr, hpm, hh, hk, hg⟩ := hp
  refine ⟨v', H', hr, Keeps.below (h.ext.trans' hx) hk (fun k hk0 hs => ?_), h.here, fun g hg' => ?_, fun x hxm b hb => ?_, ?_, ?_, hh, fun x hxm => ?_⟩
  · rcases hs with q | q
    · have := h.here; omega
    · have := h.own k q; omega
  · rcases hg with q | ⟨g', q, hge⟩
    · exact h.own g (q ▸ hg')
    · rw [q] at hg'; cases hg'; have := (h.ext.trans' hx).size; omega
  · rcases List.mem_append.1 (hpm.mem_iff.1 hxm) with hm | hm
    · exact h.ents x hm b hb
    · simp only [List.mem_singleton] at hm
      subst hm
      have := he.new b hb; have := h.ext.size; omega
  · refine (hpm.pairwise_iff (fun {x y} hxy => apart_symm hxy)).2 (List.pairwise_append.2 ⟨h.apart, List.pairwise_singleton _ _, fun x hxm y hy b hb hyb => ?_⟩)
    simp only [List.mem_singleton] at hy
    subst hy
    have := blk_lt (h.row.ents x hxm).1 hb
    have := he.new b hyb
    omega
  · have := hpm.map IRow.xs
    rw [List.map_append] at this
    exact this.trans (h.perm.append_right _)
  · rcases List.mem_append.1 (hpm.mem_iff.1 hxm) with hm | hm
    · have h1 := h.row.ents x hm
      refine ((h.soft x hm).on h1.1 hx).keeps (CellsAt.ext h1.1 hx) hk fun b hb q => ?_
      rcases q with q | q
      · exact (h1.2.2.2 b hb).1 q
      · exact (h1.2.2.2 b hb).2 q
    · simp only [List.mem_singleton] at hm
      subst hm
      refine he.soft.keeps he.ok hk fun b hb q => ?_
      have h1 := he.new b hb
      rcases q with q | q
      · have := lt_of_cell h.row.row.cell; simp only at this; omega
      · have := (h.row.row.own.lt b q).2; omega

theorem Built.push_any {w0 w w1 : World} {r : Nat} {v : Value} {H : List IRow} {L : List (List Int)} {e : IRow} (h : Built w0 w r v H L) (hx : Ext w w1) (he : Fresh w.heap.size w1 e) (hl : L.length ≤ 90000) :
    Calls Try.prog 51 #[.iface 72 (.pointer (some ⟨r, 0, none⟩)), .iface 24 e.val] w1 fun q w' => (∃ u, q = .returned u) ∧ ∃ v' H', Built w0 w' r v' H' (L ++ [e.xs]) := by
  have h1 := h.on hx
  have hHL : H.length = L.length := by have := h.perm.length_eq; simpa using this
  refine (Go.Proofs.Ytokfmfgnjhapiaa.push_any r v H e w1 h1.row h1.heap (by omega) he.ok he.le he.cap fun b hb => ⟨fun q => ?_, fun q => ?_⟩).mono ?_
  · have := he.new b hb; have := lt_of_cell h.row.row.cell; simp only at this; omega
  · have := he.new b hb; have := (h.row.row.own.lt b q).2; omega
  · rintro q w' ⟨hu, hp⟩
    exact ⟨hu, h.push hx he hp⟩

def cutL (xs : List Int) (m k : Nat) : List Int := xs.take k ++ xs.drop (k + m)

theorem spans_concat {A A1 : Option Addr} {c n m k km : Nat} {xs : List Int} {wr : World} (hx : xs.length = n) (hkm : k + m = km) (hn : n ≤ 200) (hkn : km ≤ n) (h1 : CellsAt wr A (xs.map I64)) (h2 : CellsAt wr A1 ((xs.map I64).drop km)) (q : Nat) :
    Calls Try.prog 52 #[.slice (some ⟨wr.heap.size, 0, none⟩) 2 2] ((wr.alloc (.cells #[.slice A k c, .slice A1 (n - km) (c - km)] 24)).drewN q) fun e w1 =>
      ∃ x : IRow, e = .returned x.val ∧ x.xs = cutL xs m k ∧ Fresh wr.heap.size w1 x ∧ Ext wr w1 := by
  have l1 : (xs.take k).length = k := by rw [List.length_take, hx]; omega
  have l2 : (xs.drop km).length = n - km := by rw [List.length_drop, hx]
  have hfl : flat [⟨A, c, xs.take k⟩, ⟨A1, c - km, xs.drop km⟩] = cutL xs m k := by subst hkm; simp [flat, cutL]
  refine (concat_any _ [⟨A, c, xs.take k⟩, ⟨A1, c - km, xs.drop km⟩] 2 2 _ ?_ ?_ rfl (by omega) (by simp [flat, l1, l2]; omega)).mono ?_
  · simp only [List.map_cons, List.map_nil, IRow.val, l1, l2]
    exact (cellsAt_new wr _ _).ext ((Ext.refl' _).drewN' q)
  · intro y hy
    simp only [List.mem_cons, List.not_mem_nil, or_false] at hy
    rcases hy with rfl | rfl
    · rw [IRow.ok, List.map_take]
      exact (h1.take k).ext (((Ext.refl' wr).alloc' _).drewN' q)
    · rw [IRow.ok, List.map_drop]
      exact h2.ext (((Ext.refl' wr).alloc' _).drewN' q)
  · rintro e w1 ⟨⟨u, rfl, ho⟩, hx1⟩
    rw [hfl] at ho
    obtain ⟨y, rfl, hyx, hfr⟩ := fresh_of_own ho rfl
    exact ⟨y, rfl, hyx, ⟨hfr.ok, hfr.le, hfr.cap, fun b hb => by have := hfr.new b hb; simp at this; omega, hfr.soft⟩, (((Ext.refl' wr).alloc' _).drewN' q).trans' hx1⟩

set_option maxHeartbeats 1000000 in
theorem spans_near (A : Option Addr) (xs : List Int) (n c m : Nat) (r : Nat) (v : Value) (H : List IRow) (L : List (List Int)) (w0 w : World) (hB : Built w0 w r v H L) (hA : IS w0 A xs) (hx : xs.length = n) (hn : n ≤ 200) (hc : n ≤ c) (hcm : c ≤ maxLen) (hm : m ≤ n) (hl : L.length ≤ 1000) :
    Calls Try.prog 35 #[.pointer (some ⟨r, 0, none⟩), .slice A n c, .int .i64 m] w fun e w' => (∃ u, e = .returned u) ∧ ∃ v' H', Built w0 w' r v' H' (L ++ (List.range (n - m + 1)).map (cutL xs m)) := by
  refine of_post fun R hR => ?_
  have HB := Lib.hid hB
  have HA := Lib.hid (cells_of_IS hA)
  have Hx := Lib.hid hx
  clear hB hA hx
  have hq : ((n : Int) - m) + 1 = ((n - m + 1 : Nat) : Int) := by omega
  obtain ⟨N, hN⟩ : ∃ N, n - m + 1 = N := ⟨_, rfl⟩
  rw [hN] at hq
  rw [hN] at hR
  have HN := Lib.hid hN
  clear hN
  have hNb : N ≤ 201 := by have := HN.out; omega
  unfold maxLen at hcm
  go_enter Try.func35, Try.ntmps35
  go_wp2_with fail
  go_loopw [6, 12] (fun _ iv wr => ∃ (k : Nat) (v' : Value) (H' : List IRow), iv = .int .i64 k ∧ k ≤ N ∧ Hid (Built w0 wr r v' H' (L ++ (List.range k).map (cutL xs m)))) (fun _ iv _ => N - (intOf iv).toNat)
  case atStart => exact ⟨0, v, H, rfl, Nat.zero_le _, Lib.hid (by simpa using HB.out)⟩
  case round =>
    obtain ⟨k, v', H', rfl, hk, HW⟩ := hrel
    by_cases hlt : k < N
    · have hkm : k + m ≤ n := by have := HN.out; omega
      have e1 : (0 : Int) ≤ k := by omega
      have e2 : (k : Int) ≤ c := by omega
      have e3 : (k : Int) + m = ((k + m : Nat) : Int) := by omega
      have e4 : (0 : Int) ≤ ((k + m : Nat) : Int) := by omega
      have e5 : ((k + m : Nat) : Int) ≤ n := by omega
      have e6 : ((k + m : Nat) : Int) ≤ c := by omega
      have hcl : Hid (cutL xs m k = xs.take k ++ xs.drop (k + m)) := Lib.hid rfl
      generalize hkm' : k + m = km at e3 e4 e5 e6 hkm hcl
      have e7 : IntKind.i64.wrap (km : Int) = km := by rw [IntKind.wrap_i64]; omega
      have Hkm := Lib.hid hkm'
      clear hkm'
      have c1 := HA.out.cut km c (by simp [Hx.out]; omega)
      obtain ⟨A1, h1⟩ : ∃ A1, (if c = km then A else Option.map (fun x => x.add km) A) = A1 := ⟨_, rfl⟩
      rw [h1] at c1
      have HC1 := Lib.hid c1
      clear c1
      go_wp2_with fail
      have HCC := Lib.hid (spans_concat (A := A) (A1 := A1) (c := c) (xs := xs) (m := m) (k := k) (km := km) (n := n) (wr := wr) Hx.out Hkm.out hn (by omega) (HA.out.ext HW.out.ext) (HC1.out.ext HW.out.ext))
      go_region_held3 (fun W => True) (exact trivial)
        (first
          | (go_at_call 52; refine (HCC.out _).mono ?_; rintro e w1 ⟨q, rfl, hqx, hfr, hx1⟩; have HX1 := Lib.hid hx1; have HFR := Lib.hid hfr; have HQX := Lib.hid hqx; clear hx1 hfr hqx)
          | (go_at_call 51; refine (HW.out.push_any HX1.out HFR.out (by simp; omega)).mono ?_; rintro e w2 ⟨⟨u, rfl⟩, v2, H2, hb2⟩; have HB2 := Lib.hid hb2; clear hb2))
      have HB3 : Hid (Built w0 w2 r v2 H2 (L ++ (List.range (k + 1)).map (cutL xs m))) := Lib.hid (by
        rw [List.range_succ, List.map_append, ← List.append_assoc]
        simpa [HQX.out] using HB2.out)
      go_wp2_with fail
      go_roundw
      case rel => exact ⟨k + 1, v2, H2, by go_num, by omega, HB3⟩
      case measure => simp [intOf]; omega
    · obtain rfl : k = N := by omega
      go_wp2_with fail
      go_end0
      exact hR.out _ _ ⟨⟨_, rfl⟩, v', H', HW.out⟩
end Go.Proofs.Ytokfmfgnjhapiaa
