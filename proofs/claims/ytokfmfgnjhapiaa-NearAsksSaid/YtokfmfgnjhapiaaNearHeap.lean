/- container/heap over near's row: Push and Pop. -/
import Derived.Test.YtokfmfgnjhapiaaNearDown
namespace Go.Proofs.Ytokfmfgnjhapiaa
open Go.RowKit
set_option linter.unusedVariables false
set_option linter.unusedSimpArgs false

theorem Keeps.trans_of {S S' : Nat → Prop} {a b c : World} (h : Keeps S a b) (k : Keeps S' b c) (hs : ∀ i, i < a.heap.size → S' i → S i) : Keeps S a c :=
  ⟨k.os.trans h.os, k.tape.trans h.tape, k.output.trans h.output, Nat.le_trans h.size k.size, fun i hi hn => (k.block i (Nat.lt_of_lt_of_le hi h.size) (fun e => hn (hs i hi e))).trans (h.block i hi hn)⟩
theorem HeapN.congr {f g : Nat → List Int} {n : Nat} (h : HeapN f n) (e : ∀ i, i < n → g i = f i) : HeapN g n := fun i h0 hn => by
  rw [e i hn, e (par i) (Nat.lt_trans (par_lt h0) hn)]
  exact h i h0 hn
theorem keyOf_append {H K : List IRow} {i : Nat} (h : i < H.length) : keyOf (H ++ K) i = keyOf H i := by simp [keyOf, h, List.getElem?_append_left]
theorem keyOf_take {H : List IRow} {n i : Nat} (h : i < n) : keyOf (H.take n) i = keyOf H i := by simp [keyOf, h, List.getElem?_take]
theorem upInv_push {H : List IRow} (x : IRow) (h : HeapN (keyOf H) H.length) : UpInv (keyOf (H ++ [x])) H.length (H.length + 1) :=
  ⟨fun i h0 hn hne => by
    have hp := par_lt h0
    rw [keyOf_append (by omega), keyOf_append (by omega)]
    exact h i h0 (by omega), fun i h0 hn hp _ => by have := par_lt h0; omega⟩
theorem downInv_pop {H : List IRow} {n : Nat} (h : HeapN (keyOf H) (n + 1)) : DownInv (sw (keyOf H) 0 n) 0 n :=
  ⟨fun i h0 hn hne => by
    have hp := par_lt h0
    rw [sw_o _ (by omega) (by omega), sw_o _ (by omega) (by omega)]
    exact h i h0 (by omega), fun _ _ _ _ h0 => absurd h0 (Nat.lt_irrefl 0)⟩

theorem blk_lt {w : World} {e : IRow} (h : e.ok w) {b : Nat} (hb : blk e = some b) : b < w.heap.size := by
  unfold blk at hb
  split at hb
  · cases hb
  · rename_i hne
    obtain ⟨bl, o, e1, hc⟩ := h (by simpa using hne)
    rw [e1] at hb
    simp only [Option.map_some, Option.some.injEq] at hb
    subst hb
    obtain ⟨a, l, e2⟩ := List.exists_cons_of_ne_nil hne
    exact lt_of_cell (hc 0 (I64 a) (by simp [e2]))

def PushPost (w w' : World) (r : Nat) (v : Value) (H : List IRow) (x : IRow) : Prop :=
  ∃ v' H', Row w' r v' H' ∧ H'.Perm (H ++ [x]) ∧ HeapN (keyOf H') H'.length ∧ Keeps (fun k => k = r ∨ v.ownBlock = some k) w w' ∧ (v'.ownBlock = v.ownBlock ∨ ∃ g, v'.ownBlock = some g ∧ w.heap.size ≤ g)

theorem push_any (r : Nat) (v : Value) (H : List IRow) (x : IRow) (w : World) (h : Row w r v H) (hh : HeapN (keyOf H) H.length) (hn : H.length ≤ 90000)
    (hx : x.ok w) (hx1 : x.xs.length ≤ x.c) (hx2 : x.c ≤ maxLen) (hx3 : ∀ b, blk x = some b → b ≠ r ∧ v.ownBlock ≠ some b) :
    Calls Try.prog 51 #[.iface 72 (.pointer (some ⟨r, 0, none⟩)), .iface 24 x.val] w fun e w' => (∃ u, e = .returned u) ∧ PushPost w w' r v H x := by
  refine of_post fun R hR => ?_
  have HP := Lib.hid (push_row r v H x w h.row (by omega))
  have HE := Lib.hid h.ents
  have HH := Lib.hid hh
  have HX := Lib.hid hx
  have HX3 := Lib.hid hx3
  have hlt := lt_of_cell h.row.cell
  clear h hh hx hx3
  have hm := fun W => meth_push ⟨r, 0, none⟩ W
  go_enter Try.func51, Try.ntmps51
  go_wp2_with fail
  refine HP.out.mono ?_
  rintro e w1 ⟨⟨u, rfl⟩, v', hr, hk, hg⟩
  have hrow : Row w1 r v' (H ++ [x]) := ⟨hr, fun e he => by
    have hnew : ∀ b, b < w.heap.size → v.ownBlock ≠ some b → v'.ownBlock ≠ some b := fun b hb hne e => by
      rcases hg with q | ⟨g, q, hge⟩
      · exact hne (q ▸ e)
      · rw [q] at e; cases e; omega
    have one : ∀ e : IRow, e.ok w → (∀ b, blk e = some b → b ≠ r ∧ v.ownBlock ≠ some b) → e.ok w1 ∧ ∀ b, blk e = some b → b ≠ r ∧ v'.ownBlock ≠ some b := fun e he hb =>
      ⟨hk.ok he fun y hy hne hs => by
        have := hb _ (blk_some hy hne)
        rcases hs with q | q
        · exact this.1 q
        · exact this.2 q, fun b hbb => ⟨(hb b hbb).1, hnew b (blk_lt he hbb) (hb b hbb).2⟩⟩
    rcases List.mem_append.1 he with he | he
    · obtain ⟨a, b, c, d⟩ := HE.out e he
      exact ⟨(one e a d).1, b, c, (one e a d).2⟩
    · simp only [List.mem_singleton] at he
      subst he
      exact ⟨(one e HX.out HX3.out).1, hx1, hx2, (one e HX.out HX3.out).2⟩⟩
  obtain ⟨g, c, rfl, hnc, hgr⟩ := hrow.form (by simp)
  have hlen : (H ++ [x]).length = H.length + 1 := by simp
  rw [hlen] at hnc
  rw [hlen] at hrow hg
  have hm2 := meth_len r _ w1 hrow.row.cell
  have HROW := Lib.hid hrow
  have HK := Lib.hid hk
  have HG := Lib.hid hg
  have HU := Lib.hid (upInv_push x HH.out)
  clear hr hrow hk hg hm
  have hN : ((H.length + 1 : Nat) : Int) - 1 = (H.length : Nat) := by omega
  generalize hn1 : H.length + 1 = n1 at *
  have Hn1 := Lib.hid hn1
  clear hn1 hlen
  go_wp2_with fail
  refine (len_row _ n1 c w1 (by unfold maxLen; have := Hn1.out; omega)).mono ?_
  rintro e w2 ⟨rfl, rfl⟩
  have HU2 := Lib.hid (up_any r g n1 c (H ++ [x]) H.length w2 HROW.out (by simp [Hn1.out]) (by have := Hn1.out; omega) (by have := Hn1.out; omega) HU.out)
  generalize hHl : H.length = hl at *
  clear hm2
  go_wp2_with fail
  refine HU2.out.mono ?_
  rintro e w3 ⟨⟨u, rfl⟩, H', ⟨hp, hr, hk⟩, hh⟩
  have hl3 : H'.length = n1 := by rw [hp.length_eq]; simp [hHl, Hn1.out]
  have HPP : Hid (PushPost w w3 r v H x) := Lib.hid ⟨_, H', hr, hp, by rw [hl3]; exact hh, HK.out.trans_of hk (fun i hi e => by
    rcases HG.out with q | ⟨g', q, hge⟩
    · exact .inr (q ▸ e)
    · rw [q] at e; cases e; omega), HG.out⟩
  clear hp hr hk hh hl3
  go_wp2_with fail
  go_end0
  exact hR.out _ _ ⟨⟨_, rfl⟩, HPP.out⟩

/-- What a pop leaves: the least sequence told, the others where they were. -/
def PopPost (w w' : World) (r : Nat) (v : Value) (H : List IRow) (x : IRow) : Prop :=
  ∃ v' H', Row w' r v' H' ∧ H.Perm (x :: H') ∧ HeapN (keyOf H') H'.length ∧ (∀ e ∈ H', lessL e.xs x.xs = false) ∧ Keeps (fun k => k = r ∨ v.ownBlock = some k) w w' ∧ v'.ownBlock = v.ownBlock

theorem pop_any (r : Nat) (v : Value) (H : List IRow) (w : World) (h : Row w r v H) (hh : HeapN (keyOf H) H.length) (h0 : 0 < H.length) (hn : H.length ≤ 100000) :
    Calls Try.prog 54 #[.iface 72 (.pointer (some ⟨r, 0, none⟩))] w fun e w' => ∃ x, e = .returned (.iface 24 x.val) ∧ PopPost w w' r v H x := by
  refine of_post fun R hR => ?_
  obtain ⟨n, hN⟩ : ∃ n, H.length = n + 1 := ⟨H.length - 1, by omega⟩
  obtain ⟨g, c, rfl, hnc, hgr⟩ := h.form h0
  rw [hN] at h hh hnc
  have HRow := Lib.hid h
  have HH := Lib.hid hh
  have HN := Lib.hid hN
  have hm1 := meth_len r _ w h.row.cell
  have hm2 := meth_swap r _ w h.row.cell
  have HP := fun W => meth_pop ⟨r, 0, none⟩ W
  have hnb : n + 1 ≤ 100000 := by omega
  have HB : Hid ((Value.slice (some ⟨g, 0, none⟩) H.length c).ownBlock = some g) := Lib.hid rfl
  rw [hN] at HB hR
  clear h hh hN h0 hn
  have hq : ((n + 1 : Nat) : Int) - 1 = (n : Nat) := by omega
  generalize hn1 : n + 1 = n1 at *
  have Hn1 := Lib.hid hn1
  clear hn1
  go_enter Try.func54, Try.ntmps54
  go_wp2_with fail
  refine (len_row _ n1 c w (by unfold maxLen; omega)).mono ?_
  rintro e w1 ⟨rfl, rfl⟩
  go_wp2_with fail
  refine (row_swap HRow.out HN.out hnb (i := 0) (k := n) (by have := Hn1.out; omega) (by have := Hn1.out; omega)).mono ?_
  rintro e w2 ⟨⟨u, rfl⟩, hr2, hk2⟩
  have hl2 : (swapL H 0 n (by have := HN.out; have := Hn1.out; omega) (by have := HN.out; have := Hn1.out; omega)).length = n1 := by rw [swapL_length]; exact HN.out
  have HD := Lib.hid (down_any r g n1 c _ n w2 hr2 hl2 hnb (by have := Hn1.out; omega) (by
    rw [swapL_key]; exact downInv_pop (by rw [Hn1.out]; exact HH.out)))
  have HK2 := Lib.hid hk2
  clear hr2 hk2 hm1 hm2
  go_wp2_with fail
  refine HD.out.mono ?_
  rintro e w3 ⟨⟨u, rfl⟩, H2, ⟨hp, hr3, hk3⟩, hh3, hd3⟩
  have hl3 : H2.length = n1 := hp.length_eq.trans hl2
  have hn0 : 0 < H.length := by have := HN.out; have := Hn1.out; omega
  have hd4 : H2.drop n = [H[0]] := by
    have h1 := HN.out
    have h2 := Hn1.out
    rw [hd3]
    have : n < (swapL H 0 n (by omega) (by omega)).length := by rw [swapL_length]; omega
    rw [List.drop_eq_getElem_cons this, List.drop_of_length_le (by rw [swapL_length]; omega)]
    simp [swapL]
  have hsplit : H2 = H2.take n ++ [H[0]] := by
    conv => lhs; rw [← List.take_append_drop n H2, hd4]
  have hperm : H.Perm (H[0] :: H2.take n) := by
    have h1 : H2.Perm H := hp.trans (swapL_perm _ _ _ _ _)
    have h2 : (H2.take n ++ [H[0]]).Perm (H[0] :: H2.take n) := List.perm_append_comm
    exact h1.symm.trans (by conv => lhs; rw [hsplit]
                            exact h2)
  have hlt : (H2.take n).length = n := by rw [List.length_take, hl3]; have := Hn1.out; omega
  have hmin : ∀ e ∈ H2.take n, lessL e.xs H[0].xs = false := fun e he => by
    have hm : e ∈ H := hperm.mem_iff.2 (List.mem_cons_of_mem _ he)
    obtain ⟨i, hi, rfl⟩ := List.getElem_of_mem hm
    have := root_least HH.out i (by have := HN.out; omega)
    rwa [keyOf_at hi, keyOf_at hn0] at this
  have hrow3 : RowCell w3 r (.slice (some ⟨g, 0, none⟩) (n + 1) c) (H2.take n ++ [H[0]]) := by
    rw [← hsplit, Hn1.out]; exact hr3.row
  have HPOP := Lib.hid (pop_row r g n c (H2.take n) H[0] w3 hrow3 hlt (by have := Hn1.out; omega))
  have HE3 := Lib.hid hr3.ents
  have HK3 := Lib.hid (HK2.out.trans hk3)
  have HMIN := Lib.hid hmin
  have HPERM := Lib.hid hperm
  have HLT := Lib.hid hlt
  have HHEAP : Hid (HeapN (keyOf (H2.take n)) n) := Lib.hid (hh3.congr fun i hi => keyOf_take hi)
  clear hp hr3 hk3 hh3 hd3 hd4 hsplit hperm hlt hmin hrow3 hl3
  generalize hx0 : H[0] = x0 at *
  go_wp2_with fail
  refine HPOP.out.mono ?_
  rintro e w4 ⟨rfl, hrc, hk4⟩
  have HPP : Hid (PopPost w1 w4 r (.slice (some ⟨g, 0, none⟩) n1 c) H x0) := Lib.hid ⟨_, H2.take n, ⟨hrc, fun e he => by
      obtain ⟨a, b, c', d⟩ := HE3.out e (List.mem_of_mem_take he)
      exact ⟨hk4.ok a fun y hy hne hs => (d _ (blk_some hy hne)).1 hs, b, c', d⟩⟩, HPERM.out, by rw [HLT.out]; exact HHEAP.out, HMIN.out,
    (HK3.out.mono fun k _ e => .inr e).trans (hk4.mono fun k _ e => .inl e), rfl⟩
  clear hrc hk4
  go_wp2_with fail
  exact hR.out _ _ ⟨x0, rfl, HPP.out⟩
end Go.Proofs.Ytokfmfgnjhapiaa
