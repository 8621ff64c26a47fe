/- NearAlls: what is told is the document's row, as far as it is asked. -/
import Derived.Test.YtokfmfgnjhapiaaNearRefIs
namespace Go.Proofs.Ytokfmfgnjhapiaa
open Go.RowKit
set_option linter.unusedVariables false
set_option linter.unusedSimpArgs false

/-- What the law's closure keeps. -/
structure ASt (w4 : World) (bk bn D cb : Nat) (A : Option Addr) (n c most : Nat) (pre : List (List Int)) (T : Nat → Prop) (W : World) : Prop where
  ext : Ext w4 W
  ok : W.cell? ⟨bk, 0, none⟩ = some (.bool true)
  num : W.cell? ⟨bn, 0, none⟩ = some (.int .i64 pre.length)
  sok : W.frozen? ⟨bk, 0, none⟩ = false
  snum : W.frozen? ⟨bn, 0, none⟩ = false
  box : W.cell? ⟨cb, 0, none⟩ = some (.slice A n c)
  out : ∀ b, T b → D ≤ b
  size : D ≤ W.heap.size
  few : pre = [] ∨ pre.length < most
/-- What it keeps when it has said 'no more'. -/
structure AEnd (w4 : World) (bk bn most : Nat) (pre : List (List Int)) (W : World) : Prop where
  ext : Ext w4 W
  ok : W.cell? ⟨bk, 0, none⟩ = some (.bool true)
  num : W.cell? ⟨bn, 0, none⟩ = some (.int .i64 pre.length)
  few : most ≤ pre.length
  one : pre ≠ []
  was : pre.length ≤ 1 ∨ pre.length ≤ most

theorem ASt.keeps {w4 : World} {bk bn D cb : Nat} {A : Option Addr} {n c most : Nat} {pre : List (List Int)} {T T' S : Nat → Prop} {W W' : World} (h : ASt w4 bk bn D cb A n c most pre T W) (hk : Keeps S W W') (hs : ∀ b, b < D → ¬ S b) (ht : ∀ b, T' b → D ≤ b)
    (h4 : w4.heap.size ≤ D) (h1 : bk < D) (h2 : bn < D) (h3 : cb < D) : ASt w4 bk bn D cb A n c most pre T' W' :=
  ⟨Keeps.below h.ext hk fun k hk' => hs k (by omega), hk.cell (hs _ h1) h.ok, hk.cell (hs _ h2) h.num, (World.frozen?_of_block (hk.block _ (by have := h.size; simp; omega) (hs _ h1))).trans h.sok,
    (World.frozen?_of_block (hk.block _ (by have := h.size; simp; omega) (hs _ h2))).trans h.snum, hk.cell (hs _ h3) h.box, ht, Nat.le_trans h.size hk.size, h.few⟩
theorem ASt.steady {w4 : World} {bk bn D cb : Nat} {A : Option Addr} {n c most : Nat} (h4 : w4.heap.size ≤ D) (h1 : bk < D) (h2 : bn < D) (h3 : cb < D) : Steady (ASt w4 bk bn D cb A n c most) := by
  intro pre T T' W W' h hk ht
  exact h.keeps hk (fun b hb q => by have := h.out b q; omega) (fun b hb => (ht b hb).elim (h.out b) fun q => Nat.le_trans h.size q) h4 h1 h2 h3

theorem prefix_get {L pre : List (List Int)} {y : List Int} (h : pre ++ [y] <+: L) : pre.length < L.length ∧ L[pre.length]? = some y := by
  obtain ⟨t, rfl⟩ := h
  simp

set_option maxHeartbeats 1000000 in
theorem alls1 (w4 : World) (bk bn bw bm D cb : Nat) (A : Option Addr) (n c most : Nat) (hm : most ≤ 255) (h4k : w4.heap.size ≤ bk) (h4n : w4.heap.size ≤ bn) (hkn : bk ≠ bn) (hkD : bk < D) (hnD : bn < D) (hcD : cb < D) (hck : cb ≠ bk) (hcn : cb ≠ bn)
    (B : Option Addr) (rows : List IRow) (N cw : Nat) (L : List (List Int)) (hN : rows.length = N) (hNs : N ≤ 20000) (hcw : N ≤ cw) (hcm : cw ≤ maxLen) (hcell : CellsAt w4 B (rows.map IRow.val)) (hfr : ∀ r ∈ rows, Fresh 0 w4 r) (hL : rows.map IRow.xs = L)
    (hw : w4.cell? ⟨bw, 0, none⟩ = some (.slice B N cw)) (hmm : w4.cell? ⟨bm, 0, none⟩ = some (.int .u8 most))
    (pre : List (List Int)) (T : Nat → Prop) (W : World) (e : IRow) (h : ASt w4 bk bn D cb A n c most pre T W) (hp : pre ++ [e.xs] <+: L) (hf : Fresh 0 W e) :
    Calls Try.prog 20 #[e.val, .pointer (some ⟨bk, 0, none⟩), .pointer (some ⟨bn, 0, none⟩), .pointer (some ⟨bw, 0, none⟩), .pointer (some ⟨bm, 0, none⟩)] W
      (YPost (ASt w4 bk bn D cb A n c most) (AEnd w4 bk bn most) pre T e W) := by
  refine of_post fun R hR => ?_
  have hpg := prefix_get hp
  have hkr : pre.length < rows.length := by have := hpg.1; rw [← hL] at this; simpa using this
  have hxs : rows[pre.length].xs = e.xs := by
    have h1 := hpg.2
    rw [← hL, List.getElem?_map, List.getElem?_eq_getElem hkr] at h1
    simpa using h1
  obtain ⟨b, o, hAe, hc0⟩ := hcell.at_ (k := pre.length) (by simpa using hkr)
  subst hAe
  simp only [List.getElem_map] at hc0
  have HFK := Lib.hid ((hfr _ (List.getElem_mem hkr)).on h.ext)
  have g1 := h.ok
  have g2 := h.num
  have g3 := h.sok
  have g4 := h.snum
  have g5 := h.ext.cell' hc0
  have g6 := h.ext.cell' hw
  have g7 := h.ext.cell' hmm
  have HS := Lib.hid h
  have Hw := Lib.hid hw
  have Hmm := Lib.hid hmm
  have HPN : Hid ((pre ++ [e.xs]).length = pre.length + 1) := Lib.hid (by simp)
  have HPL := Lib.hid hf
  clear hc0 hcell hfr hL hw hmm h hp hpg hf
  generalize rows[pre.length] = r at *
  have HXS := Lib.hid hxs
  clear hxs
  have hval : r.val = .slice r.A r.xs.length r.c := rfl
  have hvale : e.val = .slice e.A e.xs.length e.c := rfl
  have HEQ := Lib.hid (ints_any e.A r.A e.xs r.xs e.c r.c W (IS_of_cells HPL.out.ok) (IS_of_cells HFK.out.ok) (Nat.le_trans HPL.out.le HPL.out.cap) (Nat.le_trans HFK.out.le HFK.out.cap))
  rw [decide_eq_true HXS.out.symm] at HEQ
  rw [hval] at g5
  rw [hvale]
  clear hval hvale
  obtain ⟨k, hk⟩ : ∃ k, pre.length = k := ⟨_, rfl⟩
  have HK := Lib.hid hk
  rw [hk] at g2 g5 hkr
  rw [hN] at hkr
  clear hk hN
  generalize r.xs.length = rn at *
  generalize e.xs.length = en at *
  have hne : ¬ bn = bk := fun e => hkn e.symm
  have hbm : bm < w4.heap.size := lt_of_cell Hmm.out
  have hbw : bw < w4.heap.size := lt_of_cell Hw.out
  have hm1 : ¬ bm = bk := by omega
  have hm2 : ¬ bm = bn := by omega
  have hm3 : ¬ bk = bm := by omega
  have hm4 : ¬ bn = bm := by omega
  have i0 : (k : Int) < N := by omega
  have i1 : (0 : Int) ≤ most := by omega
  have i2 : (most : Int) ≤ 255 := by omega
  have HFEW := Lib.hid HS.out.few
  have fin : ∀ nq, Keeps (fun b => b = bk ∨ b = bn) W (((W.drewN nq).setCell ⟨bk, 0, none⟩ (.bool true)).setCell ⟨bn, 0, none⟩ (.int .i64 ((k : Int) + 1))) := fun nq =>
    (((Keeps.refl _ W).drewN nq).setCell (p := ⟨bk, 0, none⟩) (.inl rfl) _).setCell (p := ⟨bn, 0, none⟩) (.inr rfl) _
  have FIN := Lib.hid fin
  have post : ∀ nq, (((W.drewN nq).setCell ⟨bk, 0, none⟩ (.bool true)).setCell ⟨bn, 0, none⟩ (.int .i64 ((k : Int) + 1))).cell? ⟨bk, 0, none⟩ = some (.bool true) ∧ (((W.drewN nq).setCell ⟨bk, 0, none⟩ (.bool true)).setCell ⟨bn, 0, none⟩ (.int .i64 ((k : Int) + 1))).cell? ⟨bn, 0, none⟩ = some (.int .i64 ((k + 1 : Nat) : Int)) := fun nq => by
    have h1 : ((W.drewN nq).setCell ⟨bk, 0, none⟩ (.bool true)).cell? ⟨bk, 0, none⟩ = some (.bool true) := World.cell?_setCell_same' _ _ _ (by show (W.cell? _).isSome = _; rw [g1]; rfl)
    have k1 : Keeps (fun b => b = bk) W ((W.drewN nq).setCell ⟨bk, 0, none⟩ (.bool true)) := Keeps.setCell (S := fun b => b = bk) ((Keeps.refl _ W).drewN nq) (p := ⟨bk, 0, none⟩) rfl _
    have h2 := k1.cell (p := ⟨bn, 0, none⟩) hne g2
    have k2 : Keeps (fun b => b = bn) ((W.drewN nq).setCell ⟨bk, 0, none⟩ (.bool true)) (((W.drewN nq).setCell ⟨bk, 0, none⟩ (.bool true)).setCell ⟨bn, 0, none⟩ (.int .i64 ((k : Int) + 1))) := Keeps.setCell (S := fun b => b = bn) (Keeps.refl _ _) (p := ⟨bn, 0, none⟩) rfl _
    refine ⟨k2.cell (p := ⟨bk, 0, none⟩) hkn h1, ?_⟩
    exact World.cell?_setCell_same' _ _ _ (by rw [h2]; rfl)
  have POST := Lib.hid post
  clear post
  clear fin
  by_cases hlt : k + 1 < most
  · have i3 : (k : Int) + 1 < most := by omega
    go_enter Try.func20, Try.ntmps20
    go_wp2_with fail
    refine HEQ.out.mono ?_
    rintro q w1 ⟨rfl, nq, rfl⟩
    go_wp2_with fail
    refine hR.out _ _ (.inl ⟨rfl, ⟨Keeps.below HS.out.ext (FIN.out nq) fun b hb q => (by omega), (POST.out nq).1, (by rw [HPN.out, HK.out]; exact (POST.out nq).2), (by simpa using g3), (by simpa using g4), (FIN.out nq).cell (p := ⟨cb, 0, none⟩) (by simp; omega) HS.out.box, HS.out.out, by simpa using HS.out.size, .inr (by rw [HPN.out, HK.out]; exact hlt)⟩, (FIN.out nq).mono fun b _ q => .inl fun hT => by have := HS.out.out b hT; omega⟩)
  · have i3 : decide ((k : Int) + 1 < most) = false := by simp; omega
    go_enter Try.func20, Try.ntmps20
    go_wp2_with fail
    refine HEQ.out.mono ?_
    rintro q w1 ⟨rfl, nq, rfl⟩
    go_wp2_with fail
    refine hR.out _ _ (.inr ⟨rfl, ⟨Keeps.below HS.out.ext (FIN.out nq) fun b hb q => (by omega), (POST.out nq).1, (by rw [HPN.out, HK.out]; exact (POST.out nq).2), by rw [HPN.out, HK.out]; omega, by simp, ?_⟩⟩)
    rw [HPN.out, HK.out]
    rcases HFEW.out with h | h
    · have := HK.out; rw [h] at this; simp at this; omega
    · rw [HK.out] at h; omega
end Go.Proofs.Ytokfmfgnjhapiaa
