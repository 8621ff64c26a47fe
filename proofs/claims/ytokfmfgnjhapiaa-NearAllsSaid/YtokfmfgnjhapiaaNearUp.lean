/- container/heap over near's row: up. -/
import Derived.Test.YtokfmfgnjhapiaaNearRow
import Derived.Test.YtokfmfgnjhapiaaHeapLaw
namespace Go.Proofs.Ytokfmfgnjhapiaa
open Go.RowKit
set_option linter.unusedVariables false
set_option linter.unusedSimpArgs false

def keyOf (H : List IRow) (i : Nat) : List Int := (H[i]?.map IRow.xs).getD []
theorem keyOf_at {H : List IRow} {i : Nat} (h : i < H.length) : keyOf H i = H[i].xs := by simp [keyOf, h]

/-- Two of a list change places. -/
def swapL (H : List IRow) (a b : Nat) (ha : a < H.length) (hb : b < H.length) : List IRow := (H.set a H[b]).set b H[a]
theorem swapL_length (H : List IRow) (a b : Nat) (ha : a < H.length) (hb : b < H.length) : (swapL H a b ha hb).length = H.length := by simp [swapL]
theorem swapL_perm (H : List IRow) (a b : Nat) (ha : a < H.length) (hb : b < H.length) : (swapL H a b ha hb).Perm H := List.set_set_perm ha hb
theorem swapL_key (H : List IRow) (a b : Nat) (ha : a < H.length) (hb : b < H.length) : keyOf (swapL H a b ha hb) = sw (keyOf H) a b := by
  funext i
  unfold sw
  by_cases e : i = b
  · subst e; rw [if_pos rfl, keyOf_at ha, keyOf_at (by simp [swapL_length, hb])]; simp [swapL]
  · rw [if_neg e]
    by_cases e2 : i = a
    · subst e2; rw [if_pos rfl, keyOf_at hb, keyOf_at (by simp [swapL_length, ha])]
      simp [swapL, List.getElem_set, Ne.symm e]
    · rw [if_neg e2]
      simp [keyOf, swapL, List.getElem?_set, Ne.symm e, Ne.symm e2]
theorem swapL_drop (H : List IRow) (a b n : Nat) (ha : a < H.length) (hb : b < H.length) (han : a < n) (hbn : b < n) : (swapL H a b ha hb).drop n = H.drop n := by
  apply List.ext_getElem?
  intro i
  simp [swapL, List.getElem?_drop, List.getElem?_set, show ¬ b = n + i by omega, show ¬ a = n + i by omega]

def blk (e : IRow) : Option Nat := if e.xs = [] then none else e.A.map (·.block)
theorem blk_some {e : IRow} {x : Addr} (h : e.A = some x) (hn : e.xs ≠ []) : blk e = some x.block := by simp [blk, hn, h]

/-- The heap's row: its cell, its slice, its sequences, each of them out of the row's own blocks. -/
structure Row (w : World) (r : Nat) (v : Value) (H : List IRow) : Prop where
  row : RowCell w r v H
  ents : ∀ e ∈ H, e.ok w ∧ e.xs.length ≤ e.c ∧ e.c ≤ maxLen ∧ ∀ b, blk e = some b → b ≠ r ∧ v.ownBlock ≠ some b

theorem RowCell.keeps {w w' : World} {r : Nat} {v : Value} {H : List IRow} {S : Nat → Prop} (h : RowCell w r v H) (hk : Keeps S w w') (h1 : ¬ S r) (h2 : ∀ g, v.ownBlock = some g → ¬ S g) : RowCell w' r v H :=
  ⟨hk.cell h1 h.cell, (World.frozen?_of_block (hk.block r (lt_of_cell h.cell) h1)).trans h.soft, hk.own h.own h2, h.apart⟩
theorem Row.keeps {w w' : World} {r : Nat} {v : Value} {H : List IRow} {S : Nat → Prop} (h : Row w r v H) (hk : Keeps S w w') (h1 : ¬ S r) (h2 : ∀ g, v.ownBlock = some g → ¬ S g) (h3 : ∀ e ∈ H, ∀ b, blk e = some b → ¬ S b) : Row w' r v H :=
  ⟨h.row.keeps hk h1 h2, fun e he => let ⟨a, b, c, d⟩ := h.ents e he; ⟨hk.ok a fun x hx hn => h3 e he _ (blk_some hx hn), b, c, d⟩⟩
theorem Row.ext {w w' : World} {r : Nat} {v : Value} {H : List IRow} (h : Row w r v H) (hx : Ext w w') : Row w' r v H :=
  h.keeps (S := fun _ => False) (Keeps.of_ext hx) (fun h => h) (fun _ _ h => h) (fun _ _ _ _ h => h)
theorem Row.form {w : World} {r : Nat} {v : Value} {H : List IRow} (h : Row w r v H) (hn : 0 < H.length) : ∃ g c, v = .slice (some ⟨g, 0, none⟩) H.length c ∧ H.length ≤ c ∧ g ≠ r := by
  obtain ⟨g, c, rfl, _, _⟩ := h.row.own.form hn
  exact ⟨g, c, rfl, own_le h.row.own, fun e => h.row.apart (by rw [e]; rfl)⟩
theorem Row.at_ {w : World} {r g n c : Nat} {H : List IRow} (h : Row w r (.slice (some ⟨g, 0, none⟩) n c) H) (hn : H.length = n) {i : Nat} (hi : i < n) :
    w.cell? ⟨g, i, none⟩ = some ((H[i]'(by omega)).val) ∧ w.frozen? ⟨g, i, none⟩ = false := by
  subst hn
  exact ⟨by rw [h.row.own.cellAt i (by omega)]; simp [hi], h.row.own.frozenAt i⟩
/-- Two places of the row change their sequences. -/
theorem Row.swapped {w : World} {r g n c : Nat} {H : List IRow} (h : Row w r (.slice (some ⟨g, 0, none⟩) n c) H) (hn : H.length = n) {i k : Nat} (hi : i < H.length) (hk : k < H.length) (q : Nat) :
    Row (((w.setCell ⟨g, i, none⟩ H[k].val).setCell ⟨g, k, none⟩ H[i].val).drewN q) r (.slice (some ⟨g, 0, none⟩) n c) (swapL H i k hi hk) ∧
      Keeps (fun b => some g = some b) w (((w.setCell ⟨g, i, none⟩ H[k].val).setCell ⟨g, k, none⟩ H[i].val).drewN q) := by
  subst hn
  have hgr : g ≠ r := fun e => h.row.apart (by rw [e]; rfl)
  have hkp : Keeps (fun b => some g = some b) w (((w.setCell ⟨g, i, none⟩ H[k].val).setCell ⟨g, k, none⟩ H[i].val).drewN q) :=
    (((Keeps.refl (fun b => some g = some b) w).setCell (p := ⟨g, i, none⟩) rfl _).setCell (p := ⟨g, k, none⟩) rfl _).drewN q
  have ho := ((h.row.own.stored i H[k].val).1.stored k H[i].val).1
  refine ⟨⟨⟨hkp.cell (p := ⟨r, 0, none⟩) (fun e => hgr (by simpa using e)) h.row.cell, (World.frozen?_of_block (hkp.block r (lt_of_cell h.row.cell) (fun e => hgr (by simpa using e)))).trans h.row.soft, ?_, h.row.apart⟩, fun e he => ?_⟩, hkp⟩
  · have : (swapL H i k hi hk).map IRow.val = ((H.map IRow.val).set i H[k].val).set k H[i].val := by simp [swapL, List.map_set]
    rw [this, swapL_length]
    have ho' := own_ext ho ((Ext.refl' _).drewN' q)
    exact ho'
  · have hm : e ∈ H := (swapL_perm H i k hi hk).mem_iff.1 he
    obtain ⟨a, b, c, d⟩ := h.ents e hm
    refine ⟨hkp.ok a fun x hx hne hg => ?_, b, c, d⟩
    exact (d _ (blk_some hx hne)).2 hg

theorem row_less {w : World} {r g n c : Nat} {H : List IRow} (h : Row w r (.slice (some ⟨g, 0, none⟩) n c) H) (hn : H.length = n) (hn2 : n ≤ 100000) {i k : Nat} (hi : i < n) (hk : k < n) :
    Calls Try.prog 81 #[.slice (some ⟨g, 0, none⟩) n c, .int .i64 i, .int .i64 k] w fun e w' => e = .returned (.bool (lessL (keyOf H i) (keyOf H k))) ∧ Ext w w' := by
  subst hn
  have e1 := h.ents H[i] (List.getElem_mem hi)
  have e2 := h.ents H[k] (List.getElem_mem hk)
  rw [keyOf_at hi, keyOf_at hk]
  exact less_row g 0 _ c i k _ _ w hi hk (by omega) (by simpa using (h.at_ rfl hi).1) (by simpa using (h.at_ rfl hk).1) e1.1 e2.1 (Nat.le_trans e1.2.1 e1.2.2.1) (Nat.le_trans e2.2.1 e2.2.2.1)

theorem row_swap {w : World} {r g n c : Nat} {H : List IRow} (h : Row w r (.slice (some ⟨g, 0, none⟩) n c) H) (hn : H.length = n) (hn2 : n ≤ 100000) {i k : Nat} (hi : i < n) (hk : k < n) :
    Calls Try.prog 82 #[.slice (some ⟨g, 0, none⟩) n c, .int .i64 i, .int .i64 k] w fun e w' => (∃ v, e = .returned v) ∧
      Row w' r (.slice (some ⟨g, 0, none⟩) n c) (swapL H i k (by omega) (by omega)) ∧ Keeps (fun b => some g = some b) w w' := by
  subst hn
  refine (swap_row g _ c i k _ _ w hi hk (by omega) (h.at_ rfl hi).1 (h.at_ rfl hk).1 (h.at_ rfl hi).2 (h.at_ rfl hk).2).mono ?_
  rintro e w' ⟨hv, q, rfl⟩
  exact ⟨hv, h.swapped rfl hi hk q⟩

/-- What a step of the heap leaves: the same sequences in another order, the row where it was. -/
def Moved (w w' : World) (r : Nat) (v : Value) (H H' : List IRow) : Prop := H'.Perm H ∧ Row w' r v H' ∧ Keeps (fun b => v.ownBlock = some b) w w'
theorem Moved.refl {w : World} {r : Nat} {v : Value} {H : List IRow} (h : Row w r v H) : Moved w w r v H H := ⟨List.Perm.refl _, h, Keeps.refl _ _⟩

theorem up_any (r g n c : Nat) (H : List IRow) (j : Nat) (w : World) (h : Row w r (.slice (some ⟨g, 0, none⟩) n c) H) (hn : H.length = n) (hn2 : n ≤ 100000) (hj : j < n) (hu : UpInv (keyOf H) j n) :
    Calls Try.prog 61 #[.iface 72 (.pointer (some ⟨r, 0, none⟩)), .int .i64 j] w fun e w' => (∃ u, e = .returned u) ∧ ∃ H', Moved w w' r (.slice (some ⟨g, 0, none⟩) n c) H H' ∧ HeapN (keyOf H') n := by
  refine of_post fun R hR => ?_
  have HR := Lib.hid h
  have Hn := Lib.hid hn
  have HU := Lib.hid hu
  clear h hn hu
  go_enter Try.func61, Try.ntmps61
  go_wp2_with fail
  go_loopw [1] (fun jv wr => ∃ (j : Nat) (H' : List IRow), jv = .int .i64 j ∧ j < n ∧ Hid (Moved w wr r (.slice (some ⟨g, 0, none⟩) n c) H H') ∧ Hid (UpInv (keyOf H') j n)) (fun jv _ => (intOf jv).toNat)
  case atStart => exact ⟨j, H, rfl, hj, Lib.hid (Moved.refl HR.out), HU⟩
  case round =>
    obtain ⟨k, H', rfl, hk, HM, HV⟩ := hrel
    have hl' := HM.out.1.length_eq.trans Hn.out
    have HL' := Lib.hid hl'
    clear hl'
    by_cases hk0 : k = 0
    · subst hk0
      have hq : ((0 : Int) - 1).tdiv 2 = 0 := by decide
      go_wp2_with fail
      go_end0
      exact hR.out _ _ ⟨⟨_, rfl⟩, H', HM.out, up_done HV.out (.inl rfl)⟩
    · have hp : par k < k := par_lt (by omega)
      have hq : ((k : Int) - 1).tdiv 2 = (par k : Nat) := by
        have h1 : ((k : Int) - 1) = ((k - 1 : Nat) : Int) := by omega
        rw [h1]
        show (((k - 1 : Nat) : Int).tdiv ((2 : Nat) : Int)) = _
        rw [← Int.ofNat_tdiv]
        rfl
      have he : (((par k : Nat) : Int) == k) = false := by simp; omega
      have HP : Hid (par k = par k) := Lib.hid rfl
      have hm := meth_less r _ wr HM.out.2.1.row.cell
      have hs := meth_swap r _ wr HM.out.2.1.row.cell
      generalize hpk : par k = p at hp hq he
      have Hpk := Lib.hid hpk
      clear hpk
      go_wp2_with fail
      refine (row_less HM.out.2.1 HL'.out hn2 hk (by omega)).mono ?_
      rintro e w1 ⟨rfl, hx⟩
      have hs := meth_swap r _ w1 (HM.out.2.1.ext hx).row.cell
      have HX := Lib.hid hx
      clear hx hm
      generalize hb : lessL (keyOf H' k) (keyOf H' p) = b
      have Hb := Lib.hid hb
      clear hb
      cases b with
      | false =>
        go_wp2_with fail
        go_end0
        exact hR.out _ _ ⟨⟨_, rfl⟩, H', ⟨HM.out.1, HM.out.2.1.ext HX.out, HM.out.2.2.trans (Keeps.of_ext HX.out)⟩, up_done HV.out (.inr (by rw [Hpk.out]; exact Hb.out))⟩
      | true =>
        go_wp2_with fail
        refine (row_swap (HM.out.2.1.ext HX.out) HL'.out hn2 (by omega) hk).mono ?_
        rintro e w2 ⟨⟨u, rfl⟩, hr2, hk2⟩
        have HR2 := Lib.hid hr2
        have HK2 := Lib.hid hk2
        clear hr2 hk2 hs
        go_wp2_with fail
        go_roundw
        case rel =>
          refine ⟨p, _, by go_num, by omega, Lib.hid ⟨(swapL_perm _ _ _ _ _).trans HM.out.1, HR2.out, (HM.out.2.2.trans (Keeps.of_ext HX.out)).trans HK2.out⟩, Lib.hid ?_⟩
          rw [swapL_key, ← Hpk.out]
          exact up_step HV.out (by omega) hk (by rw [Hpk.out]; exact Hb.out)
        case measure => simp [intOf]; omega
end Go.Proofs.Ytokfmfgnjhapiaa
