/- NearLess: each neighbour is ahead of the numbers, and rises; it is the caller's alone. -/
import Derived.Test.YtokfmfgnjhapiaaNearRefIs
import Derived.Deep.DeepCutAuto
namespace Go.Proofs.Ytokfmfgnjhapiaa
open Go.RowKit
set_option linter.unusedVariables false
set_option linter.unusedSimpArgs false

theorem lexLt_at : ∀ (j : Nat) (us bs : List Int) (ha : j < us.length) (hb : j < bs.length), us.take j = bs.take j → us[j] < bs[j] → lexLt us bs = true
  | 0, a :: l, b :: m, _, _, _, h => by
    simp only [List.getElem_cons_zero] at h
    rw [lexLt, if_neg (by omega)]
    simpa using h
  | j + 1, a :: l, b :: m, ha, hb, ht, h => by
    simp only [List.take_succ_cons, List.cons.injEq] at ht
    simp only [List.getElem_cons_succ] at h
    rw [lexLt, if_pos ht.1]
    exact lexLt_at j l m (by simpa using ha) (by simpa using hb) ht.2 h
  | _, [], _, ha, _, _, _ => by simp at ha
  | _, _ :: _, [], _, hb, _, _ => by simp at hb
theorem nth_at {xs : List Int} {k : Nat} (h : k < xs.length) : nth xs k = xs[k] := by unfold nth; rw [List.getElem?_eq_getElem h]; rfl
theorem lessL_set (xs : List Int) (k : Nat) (v : Int) (hk : k < xs.length) (hv : v < nth xs k) : lessL (xs.set k v) xs = true := by
  unfold lessL
  rw [if_pos (by simp)]
  refine lexLt_at k _ _ (by simpa using hk) hk (List.take_set_of_le (Nat.le_refl k)) ?_
  rw [List.getElem_set_self]
  rwa [nth_at hk] at hv
theorem chg_less {xs y : List Int} {k : Nat} (hk : k < xs.length) (h : y ∈ chgL xs k) : lessL y xs = true := by
  unfold chgL downs turnsL at h
  rcases List.mem_append.1 h with h | h
  · split at h
    · rename_i hp
      simp only [List.mem_cons, List.not_mem_nil, or_false] at h
      rcases h with rfl | rfl | rfl
      · exact lessL_set _ _ _ hk hp
      · exact lessL_set _ _ _ hk (by omega)
      · exact lessL_set _ _ _ hk (by omega)
    · cases h
  · split at h
    · rename_i hp
      simp only [List.mem_singleton] at h
      subst h
      have hj : k - 1 < xs.length := by omega
      unfold lessL
      rw [if_pos (by simp)]
      refine lexLt_at (k - 1) _ _ (by simpa using hj) hj ?_ ?_
      · rw [List.take_set_of_le (Nat.le_refl _), List.take_set_of_le (by omega)]
      · rw [List.getElem_set_self]
        have := hp.2
        rwa [nth_at hj] at this
    · cases h
theorem told_less {xs y : List Int} (h : y ∈ toldL xs) : lessL y xs = true := by
  cases hm : mayL xs with
  | false => rw [told_no hm] at h; cases h
  | true =>
    rw [told_yes hm] at h
    rcases List.mem_append.1 h with h | h
    · exact lessL_short (by have := (phases_rising xs xs.length 0 (by omega)).2 y h; omega)
    · obtain ⟨k, hk, hy⟩ := List.mem_flatMap.1 (mem_setOf.1 h)
      exact chg_less (List.mem_range.1 hk) hy

theorem told_next {xs pre : List (List Int)} {y z : List Int} (hr : Rising xs) (h : pre ++ [y] <+: xs) (hz : pre.getLast? = some z) : lessL z y = true := by
  obtain ⟨t, rfl⟩ := h
  exact (List.pairwise_append.1 (List.pairwise_append.1 hr).1).2.2 z (List.mem_of_getLast? hz) y (by simp)

/-- What the law's closure keeps. -/
structure LSt (w4 : World) (bk bn bs D cb : Nat) (A : Option Addr) (n c : Nat) (pre : List (List Int)) (T : Nat → Prop) (W : World) : Prop where
  ext : Ext w4 W
  ok : W.cell? ⟨bk, 0, none⟩ = some (.bool true)
  num : W.cell? ⟨bn, 0, none⟩ = some (.int .i64 pre.length)
  sok : W.frozen? ⟨bk, 0, none⟩ = false
  snum : W.frozen? ⟨bn, 0, none⟩ = false
  slast : W.frozen? ⟨bs, 0, none⟩ = false
  last : ∃ q : IRow, W.cell? ⟨bs, 0, none⟩ = some q.val ∧ Fresh 0 W q ∧ (∀ b, blk q = some b → ¬ T b ∧ D ≤ b) ∧ (pre ≠ [] → pre.getLast? = some q.xs)
  box : W.cell? ⟨cb, 0, none⟩ = some (.slice A n c)
  out : ∀ b, T b → D ≤ b
  size : D ≤ W.heap.size
structure LEnd (w4 : World) (bk bn : Nat) (pre : List (List Int)) (W : World) : Prop where
  ext : Ext w4 W
  ok : W.cell? ⟨bk, 0, none⟩ = some (.bool true)
  num : W.cell? ⟨bn, 0, none⟩ = some (.int .i64 pre.length)
  one : pre ≠ []

theorem LSt.keeps {w4 : World} {bk bn bs D cb : Nat} {A : Option Addr} {n c : Nat} {pre : List (List Int)} {T T' S : Nat → Prop} {W W' : World} (h : LSt w4 bk bn bs D cb A n c pre T W) (hk : Keeps S W W') (hs : ∀ b, b < D → ¬ S b)
    (hs2 : ∀ b, S b → b < W.heap.size → T b) (ht : ∀ b, T' b → D ≤ b) (ht2 : ∀ b, T' b → T b ∨ W.heap.size ≤ b)
    (h4 : w4.heap.size ≤ D) (h1 : bk < D) (h2 : bn < D) (h3 : cb < D) (h5 : bs < D) : LSt w4 bk bn bs D cb A n c pre T' W' := by
  obtain ⟨q, q1, q2, q3, q4⟩ := h.last
  have hz := h.size
  refine ⟨Keeps.below h.ext hk fun k hk' => hs k (by omega), hk.cell (hs _ h1) h.ok, hk.cell (hs _ h2) h.num, (World.frozen?_of_block (hk.block _ (by simp; omega) (hs _ h1))).trans h.sok,
    (World.frozen?_of_block (hk.block _ (by simp; omega) (hs _ h2))).trans h.snum, (World.frozen?_of_block (hk.block _ (by simp; omega) (hs _ h5))).trans h.slast, ⟨q, hk.cell (hs _ h5) q1, q2.keeps hk fun b hb hS => (q3 b hb).1 (hs2 b hS (blk_lt q2.ok hb)), fun b hb => ⟨fun hT => ?_, (q3 b hb).2⟩, q4⟩, hk.cell (hs _ h3) h.box, ht, Nat.le_trans h.size hk.size⟩
  rcases ht2 b hT with h | h
  · exact (q3 b hb).1 h
  · have := blk_lt q2.ok hb; omega
theorem LSt.steady {w4 : World} {bk bn bs D cb : Nat} {A : Option Addr} {n c : Nat} (h4 : w4.heap.size ≤ D) (h1 : bk < D) (h2 : bn < D) (h3 : cb < D) (h5 : bs < D) : Steady (LSt w4 bk bn bs D cb A n c) := by
  intro pre T T' W W' h hk ht
  exact h.keeps hk (fun b hb q => by have := h.out b q; omega) (fun b hb _ => hb) (fun b hb => (ht b hb).elim (h.out b) fun q => Nat.le_trans h.size q) ht h4 h1 h2 h3 h5

theorem prefix_mem {L pre : List (List Int)} {y : List Int} (h : pre ++ [y] <+: L) : y ∈ L := h.subset (by simp)
theorem prefix_get' {L pre : List (List Int)} {y : List Int} (h : pre ++ [y] <+: L) : pre.length < L.length := by
  obtain ⟨t, rfl⟩ := h
  simp
theorem mem_at {w : World} {e : IRow} (h : e.ok w) {j : Nat} (hj : j < e.xs.length) : ∃ b o u, e.A = some ⟨b, o, none⟩ ∧ blk e = some b ∧ w.cell? ⟨b, o + j, none⟩ = some u := by
  obtain ⟨b, o, hA, hc⟩ := h.at_ (k := j) (by simpa using hj)
  exact ⟨b, o, _, hA, blk_some hA (by rintro h; simp [h] at hj), hc⟩

theorem set_some {w : World} {p q : Addr} {x v : Value} (h : w.cell? q = some v) : ∃ v', (w.setCell p x).cell? q = some v' := by
  by_cases e : p = q
  · subst e; exact ⟨x, World.cell?_setCell_same w p x h⟩
  · exact ⟨v, (World.cell?_setCell_other w p q x e).trans h⟩

theorem LSt.round {w4 : World} {bk bn bs D cb : Nat} {A : Option Addr} {n c k : Nat} {pre : List (List Int)} {T : Nat → Prop} {W W' : World} {e r : IRow} (h : LSt w4 bk bn bs D cb A n c pre T W) (hbt : ∀ b, blk e = some b → T b) (hlt : ∀ b, T b → b < W.heap.size)
    (h4k : w4.heap.size ≤ bk) (h4n : w4.heap.size ≤ bn) (h4s : w4.heap.size ≤ bs) (hkD : bk < D) (hnD : bn < D) (hsD : bs < D) (hcD : cb < D) (hck : cb ≠ bk) (hcn : cb ≠ bn) (hcs : cb ≠ bs) (h4D : w4.heap.size ≤ D)
    (hk : Keeps (fun b => b = bk ∨ b = bs ∨ b = bn ∨ blk e = some b) W W') (ok : W'.cell? ⟨bk, 0, none⟩ = some (.bool true)) (num : W'.cell? ⟨bn, 0, none⟩ = some (.int .i64 ((k : Int) + 1))) (hpk : pre.length = k)
    (sok : W'.frozen? ⟨bk, 0, none⟩ = false) (snum : W'.frozen? ⟨bn, 0, none⟩ = false) (slast : W'.frozen? ⟨bs, 0, none⟩ = false) (hl : W'.cell? ⟨bs, 0, none⟩ = some r.val) (hr : Fresh 0 W' r) (hrb : ∀ b, blk r = some b → W.heap.size ≤ b) (hrx : r.xs = e.xs) :
    LSt w4 bk bn bs D cb A n c (pre ++ [e.xs]) T W' ∧ Keeps (fun b => ¬ T b ∨ blk e = some b) W W' := by
  have hD := h.size
  have hE : ∀ b, blk e = some b → D ≤ b := fun b hb => h.out b (hbt b hb)
  refine ⟨⟨Keeps.below h.ext hk fun b hb q => ?_, ok, ?_, sok, snum, slast, ⟨r, hl, hr, fun b hb => ⟨fun hT => ?_, ?_⟩, fun _ => by simp [hrx]⟩, hk.cell (p := ⟨cb, 0, none⟩) (fun q => ?_) h.box, h.out, Nat.le_trans h.size hk.size⟩, hk.mono fun b _ q => ?_⟩
  · rcases q with q | q | q | q
    · omega
    · omega
    · omega
    · have := hE b q; omega
  · rw [num, List.length_append, hpk]; rfl
  · have := hlt b hT; have := hrb b hb; omega
  · have := hrb b hb; omega
  · rcases q with q | q | q | q
    · exact hck q
    · exact hcs q
    · exact hcn q
    · have := hE cb q; omega
  · rcases q with q | q | q | q
    · exact .inl fun hT => by have := h.out b hT; omega
    · exact .inl fun hT => by have := h.out b hT; omega
    · exact .inl fun hT => by have := h.out b hT; omega
    · exact .inr q

set_option maxHeartbeats 2000000 in
theorem less1 (w4 : World) (bk bl bn bs bm D cb : Nat) (A : Option Addr) (n c many : Nat) (xs : List Int) (hm : many ≤ 255) (h4k : w4.heap.size ≤ bk) (h4n : w4.heap.size ≤ bn) (h4s : w4.heap.size ≤ bs) (hkn : bk ≠ bn) (hks : bk ≠ bs) (hns : bn ≠ bs)
    (hkD : bk < D) (hnD : bn < D) (hsD : bs < D) (hcD : cb < D) (hck : cb ≠ bk) (hcn : cb ≠ bn) (hcs : cb ≠ bs) (h4D : w4.heap.size ≤ D)
    (hA : IS w4 A xs) (hx : xs.length = n) (hcm : n ≤ maxLen) (hxs : n ≤ 140) (hl : w4.cell? ⟨bl, 0, none⟩ = some (.slice A n c)) (hmm : w4.cell? ⟨bm, 0, none⟩ = some (.int .u8 many))
    (pre : List (List Int)) (T : Nat → Prop) (W : World) (e : IRow) (h : LSt w4 bk bn bs D cb A n c pre T W) (hp : pre ++ [e.xs] <+: toldL xs) (hf : Fresh 0 W e) (hbt : ∀ b, blk e = some b → T b) (hlt : ∀ b, T b → b < W.heap.size) :
    Calls Try.prog 24 #[e.val, .pointer (some ⟨bk, 0, none⟩), .pointer (some ⟨bl, 0, none⟩), .pointer (some ⟨bn, 0, none⟩), .pointer (some ⟨bs, 0, none⟩), .pointer (some ⟨bm, 0, none⟩)] W
      (YPost (LSt w4 bk bn bs D cb A n c) (LEnd w4 bk bn) pre T e W) := by
  refine of_post fun R hR => ?_
  have hne : e.xs.length ≤ 140 := by
    have h1 := told_less (prefix_mem hp)
    unfold lessL at h1
    split at h1
    · omega
    · have := of_decide_eq_true h1; omega
  have hprel : pre.length ≤ 20000 := by have h1 := (prefix_get' hp); have := told_len_le xs; omega
  obtain ⟨q, q1, q2, q3, q4⟩ := h.last
  have HLS1 := Lib.hid (less_any e.A A e.xs xs e.c c W (IS_of_cells hf.ok) (hA.ext h.ext) (Nat.le_trans hf.le hf.cap) (by rw [hx]; exact hcm))
  rw [told_less (prefix_mem hp), hx] at HLS1
  have HLS2 := fun k => Lib.hid (less_any q.A e.A q.xs e.xs q.c e.c (W.drewN k) (IS_of_cells q2.ok) (IS_of_cells hf.ok) (Nat.le_trans q2.le q2.cap) (Nat.le_trans hf.le hf.cap))
  have HLQ : Hid (pre ≠ [] → lessL q.xs e.xs = true) := Lib.hid fun hn => told_next (told_rising xs) hp (q4 hn)
  have hvale : e.val = .slice e.A e.xs.length e.c := rfl
  have hvalq : q.val = .slice q.A q.xs.length q.c := rfl
  have g1 := h.ok
  have g2 := h.num
  have g3 := h.sok
  have g4 := h.snum
  have g5 := h.slast
  have g6 := h.ext.cell' hl
  have g7 := h.ext.cell' hmm
  rw [hvalq] at q1
  have HS := Lib.hid h
  have HE := Lib.hid hf
  have HBT := Lib.hid hbt
  have HLT := Lib.hid hlt
  have HP := Lib.hid hp
  have HQ := Lib.hid q2
  have hbl : bl < w4.heap.size := lt_of_cell hl
  have hbm : bm < w4.heap.size := lt_of_cell hmm
  clear hA hx hl hmm h hp hf hbt hlt q2 q3 q4 hvalq
  have HEN : Hid (∃ en, e.xs.length = en) := Lib.hid ⟨_, rfl⟩
  obtain ⟨en, hen⟩ := HEN.out
  obtain ⟨qn, hqn⟩ : ∃ qn, q.xs.length = qn := ⟨_, rfl⟩
  obtain ⟨k, hk⟩ : ∃ k, pre.length = k := ⟨_, rfl⟩
  have HENN := Lib.hid hen
  have HK := Lib.hid hk
  rw [hk] at g2 hprel
  rw [hen] at HLS1 HLS2 hne hvale
  rw [hqn] at HLS2 q1
  rw [hvale]
  clear hvale hen hqn hk HEN
  have hkb : ¬ bn = bk := fun e => hkn e.symm
  have hsb : ¬ bs = bk := fun e => hks e.symm
  go_enter Try.func24, Try.ntmps24
  go_upto_region 1 with fail
  go_cut [7] (fun s7 wx => s7 = .bool false ∧ ∃ nq, wx = (W.drewN nq).setCell ⟨bk, 0, none⟩ (.bool true))
  case first =>
    by_cases hk0 : k = 0
    · subst hk0
      go_wp2_with fail
      refine HLS1.out.mono ?_
      rintro u w1 ⟨rfl, nq, rfl⟩
      go_wp2_with fail
      go_meet
      exact ⟨rfl, _, rfl⟩
    · have hz : ((k : Int) == 0) = false := by simp; omega
      have HT := Lib.hid (HLQ.out (by intro h; have := HK.out; rw [h] at this; simp at this; omega))
      go_wp2_with fail
      refine HLS1.out.mono ?_
      rintro u w1 ⟨rfl, nq, rfl⟩
      have HL2 := HLS2 nq
      rw [HT.out] at HL2
      clear HLS2
      go_wp2_with fail
      refine HL2.out.mono ?_
      rintro u w1 ⟨rfl, nq2, rfl⟩
      rw [World.drewN_drewN]
      go_wp2_with fail
      go_meet
      exact ⟨rfl, _, rfl⟩
  case rest =>
    obtain ⟨rfl, nq, hwc⟩ := hcut
    have HED : Hid (∀ b, blk e = some b → D ≤ b ∧ b < W.heap.size) := Lib.hid fun b hb => ⟨HS.out.out b (HBT.out b hb), HLT.out b (HBT.out b hb)⟩
    have hDW := HS.out.size
    have HK1 : Hid (Keeps (fun b => b = bk) W wc) := Lib.hid (by rw [hwc]; exact Keeps.setCell (S := fun b => b = bk) ((Keeps.refl _ W).drewN nq) (p := ⟨bk, 0, none⟩) rfl _)
    have HZ : Hid (wc.heap.size = W.heap.size) := Lib.hid (by rw [hwc]; simp)
    have a1 : wc.cell? ⟨bk, 0, none⟩ = some (.bool true) := by rw [hwc]; exact World.cell?_setCell_same' _ _ _ (by show (W.cell? _).isSome = _; rw [g1]; rfl)
    have s1 : wc.frozen? ⟨bk, 0, none⟩ = false := by rw [hwc]; simpa using g3
    have s2 : wc.frozen? ⟨bn, 0, none⟩ = false := by rw [hwc]; simpa using g4
    have s3 : wc.frozen? ⟨bs, 0, none⟩ = false := by rw [hwc]; simpa using g5
    have a2 := HK1.out.cell (p := ⟨bn, 0, none⟩) hkb g2
    have a3 := HK1.out.cell (p := ⟨bs, 0, none⟩) hsb q1
    have hE1 : Fresh 0 wc e := HE.out.keeps HK1.out fun b hb q => by have := HED.out b hb; omega
    have hbm2 : ¬ bm = bk := by omega
    have a7 := HK1.out.cell (p := ⟨bm, 0, none⟩) hbm2 g7
    have HC := Lib.hid (CellsAt.ext hE1.ok ((Ext.refl' wc).alloc' (.cells #[] 3)))
    have HE1 := Lib.hid hE1
    have HO := Lib.hid (own_empty wc 3 1)
    have hb1 : (0 + en) * 8 ≤ 140737488355328 := by omega
    have hb2 : 0 + en ≤ maxLen := by unfold maxLen; omega
    obtain ⟨i0, hi0, hz0, hz1, hz2⟩ := info_parts infoInt
    clear hwc g1 g2 g3 g4 g5 g6 g7 q1 HLS1 HLS2 hE1
    generalize hEA : e.A = EA at *
    have HEA := Lib.hid hEA
    clear hEA
    go_wp2_with (at_builtin; go_must (refine wpList_append_src _ rfl _ _ 24 rfl wc.heap.size 3 i0 (.int .i64 0) 1 8 Try.underlying24 hi0 hz0 hz1 hz2 rfl (by decide) (.slice (some ⟨wc.heap.size, 0, none⟩) 0 0) 0 [] rfl HO.out EA en e.c (e.xs.map I64) rfl (by simp [HENN.out]) HC.out (oneCells_I64 e.xs) hb1 hb2 (by simp) ?_); intro u' w2 hO1 hG1 hB1; simp only [Nat.zero_add, List.nil_append] at hO1; have hx2 : Ext wc w2 := (ext_grown_from ((Ext.refl' wc).alloc' _) hG1 (fun k e => by simp [Value.ownBlock] at e; omega)); obtain ⟨r, hru, hrx, hrf⟩ := fresh_of_own hO1 HENN.out; subst hru; have hrv : r.val = .slice r.A en r.c := (by unfold IRow.val; rw [hrx, HENN.out]); rw [hrv]; have HRV := Lib.hid hrv; clear hrv; have b1 := hx2.cell' a1; have b2 := hx2.cell' a2; have b3 := hx2.cell' a3; have b7 := hx2.cell' a7; have t1 := (World.frozen?_of_block (hx2.block bk (by rw [HZ.out]; omega))).trans s1; have t2 := (World.frozen?_of_block (hx2.block bn (by rw [HZ.out]; omega))).trans s2; have t3 := (World.frozen?_of_block (hx2.block bs (by rw [HZ.out]; omega))).trans s3; have HX2 := Lib.hid hx2; have HRX := Lib.hid hrx; have HRF := Lib.hid hrf; clear hO1 hG1 hB1 hx2 hrx hrf HO HC)
    obtain ⟨w3, hw3⟩ : ∃ w3, w3 = w2.setCell ⟨bs, 0, none⟩ (.slice r.A en r.c) := ⟨_, rfl⟩
    rw [← hw3]
    have hk23 : Keeps (fun b => b = bs) w2 w3 := by rw [hw3]; exact Keeps.setCell (S := fun b => b = bs) (Keeps.refl _ w2) (p := ⟨bs, 0, none⟩) rfl _
    have HK3 : Hid (Keeps (fun b => b = bk ∨ b = bs ∨ b = bn ∨ blk e = some b) W w3) := Lib.hid (((HK1.out.trans (Keeps.of_ext HX2.out)).mono (S' := fun b => b = bk ∨ b = bs ∨ b = bn ∨ blk e = some b) fun b _ q => .inl q).trans (hk23.mono fun b _ q => .inr (.inl q)))
    have hHB := HX2.out.size
    rw [HZ.out] at hHB
    have d1 := hk23.cell (p := ⟨bk, 0, none⟩) hks b1
    have d2 := hk23.cell (p := ⟨bn, 0, none⟩) hns b2
    have d3 : w3.cell? ⟨bs, 0, none⟩ = some (.slice r.A en r.c) := by rw [hw3]; exact World.cell?_setCell_same' _ _ _ (by rw [b3]; rfl)
    have hbm3 : ¬ bm = bs := by omega
    have d7 := hk23.cell (p := ⟨bm, 0, none⟩) hbm3 b7
    have v1 : w3.frozen? ⟨bk, 0, none⟩ = false := by rw [hw3]; simpa using t1
    have v2 : w3.frozen? ⟨bn, 0, none⟩ = false := by rw [hw3]; simpa using t2
    have v3 : w3.frozen? ⟨bs, 0, none⟩ = false := by rw [hw3]; simpa using t3
    have HR3 : Hid (Fresh wc.heap.size w3 r) := Lib.hid (HRF.out.keeps hk23 fun b hb q => by have := HRF.out.new b hb; have := HZ.out; omega)
    have HE3 : Hid (Fresh 0 w3 e) := Lib.hid ((HE1.out.on HX2.out).keeps hk23 fun b hb q => by have := HED.out b hb; omega)
    have HL3 : Hid (∀ b, blk e = some b → b < w3.heap.size) := Lib.hid fun b hb => blk_lt HE3.out.ok hb
    clear hw3 hk23 b1 b2 b3 b7 t1 t2 t3 a1 a2 a3 a7 s1 s2 s3 HRF
    have HJ := fun W' hk => Lib.hid (HS.out.round (k := k) (W' := W') (r := r) HBT.out HLT.out h4k h4n h4s hkD hnD hsD hcD hck hcn hcs h4D hk)
    go_wp2_with fail
    go_loopw [8, 29] (fun _ i wr => ∃ j : Nat, i = .int .i64 j ∧ j ≤ en ∧ Hid (Keeps (fun b => blk e = some b) w3 wr) ∧ Hid (∀ j, j < en → ∀ b o, e.A = some ⟨b, o, none⟩ → ∃ u, wr.cell? ⟨b, o + j, none⟩ = some u) ∧ Hid (∀ b, blk e = some b → ∀ j, wr.frozen? ⟨b, j, none⟩ = false)) (fun _ i _ => en - (intOf i).toNat)
    case atStart => exact ⟨0, rfl, Nat.zero_le _, Lib.hid (Keeps.refl _ _), Lib.hid fun j hj b o hA => (by
      obtain ⟨b', o', u, hA', _, hc⟩ := mem_at HE3.out.ok (j := j) (by rw [HENN.out]; exact hj)
      rw [hA'] at hA; cases hA; exact ⟨u, hc⟩), Lib.hid HE3.out.soft⟩
    case round =>
      obtain ⟨j, rfl, hj, HKW, HCS, HFZ⟩ := hrel
      by_cases hlt : j < en
      · obtain ⟨be, oe, u, hA, hb, hc⟩ := mem_at HE3.out.ok (j := j) (by rw [HENN.out]; exact hlt)
        rw [HEA.out] at hA
        subst hA
        obtain ⟨u2, cu⟩ := HCS.out j hlt be oe HEA.out
        have fu := HFZ.out be hb (oe + j)
        have HB := Lib.hid hb
        have i1 : (0 : Int) ≤ j := by omega
        have i2 : (j : Int) < en := by omega
        clear hb hc
        go_wp2_with fail
        go_roundw
        case rel => exact ⟨j + 1, by go_num, by omega, Lib.hid (HKW.out.setCell (p := ⟨be, oe + j, none⟩) HB.out _), Lib.hid fun j' hj' b o hA' => (by obtain ⟨u3, h3⟩ := HCS.out j' hj' b o hA'; exact set_some h3), Lib.hid fun b hb' j' => (by simpa using HFZ.out b hb' j')⟩
        case measure => simp [intOf]; omega
      · obtain rfl : j = en := by omega
        have HNK : Hid (∀ b, b < D → ¬ blk e = some b) := Lib.hid fun b hb q => by have := HED.out b q; omega
        have f1 := HKW.out.cell (p := ⟨bk, 0, none⟩) (HNK.out bk hkD) d1
        have f2 := HKW.out.cell (p := ⟨bn, 0, none⟩) (HNK.out bn hnD) d2
        have f3 := HKW.out.cell (p := ⟨bs, 0, none⟩) (HNK.out bs hsD) d3
        have hbmD : bm < D := by omega
        have f7 := HKW.out.cell (p := ⟨bm, 0, none⟩) (HNK.out bm hbmD) d7
        have e1 := (World.frozen?_of_block (HKW.out.block bk (lt_of_cell d1) (HNK.out bk hkD))).trans v1
        have e2 := (World.frozen?_of_block (HKW.out.block bn (lt_of_cell d2) (HNK.out bn hnD))).trans v2
        have e3 := (World.frozen?_of_block (HKW.out.block bs (lt_of_cell d3) (HNK.out bs hsD))).trans v3
        have HRW : Hid (Fresh wc.heap.size wr r) := Lib.hid (HR3.out.keeps HKW.out fun b hb q => by have h1 := HR3.out.new b hb; have h2 := HED.out b q; have := HZ.out; omega)
        have hkw2 : Keeps (fun b => b = bn) wr (wr.setCell ⟨bn, 0, none⟩ (.int .i64 ((k : Int) + 1))) := Keeps.setCell (S := fun b => b = bn) (Keeps.refl _ wr) (p := ⟨bn, 0, none⟩) rfl _
        have hkf := (HK3.out.trans (HKW.out.mono fun b _ q => .inr (.inr (.inr q)))).trans (hkw2.mono (S' := fun b => b = bk ∨ b = bs ∨ b = bn ∨ blk e = some b) fun b _ q => .inr (.inr (.inl q)))
        have hsn : ¬ bs = bn := fun q => hns q.symm
        have c1 := hkw2.cell (p := ⟨bk, 0, none⟩) hkn f1
        have c2 : (wr.setCell ⟨bn, 0, none⟩ (.int .i64 ((k : Int) + 1))).cell? ⟨bn, 0, none⟩ = some (.int .i64 ((k : Int) + 1)) := World.cell?_setCell_same' _ _ _ (by rw [f2]; rfl)
        have HFIN := Lib.hid ((HJ _ hkf).out c1 c2 HK.out (by simpa using e1) (by simpa using e2) (by simpa using e3) (by rw [HRV.out]; exact hkw2.cell (p := ⟨bs, 0, none⟩) hsn f3) (((⟨HRW.out.ok, HRW.out.le, HRW.out.cap, fun b _ => Nat.zero_le b, HRW.out.soft⟩ : Fresh 0 wr r)).keeps hkw2 fun b hb q => by have h1 := HRW.out.new b hb; have := HZ.out; omega) (fun b hb => by have h1 := HRW.out.new b hb; rw [HZ.out] at h1; exact h1) HRX.out)
        have HFIN2 := Lib.hid c1
        have HFIN3 := Lib.hid c2
        clear hkf hkw2 c1 c2 HJ
        have i1 : (0 : Int) ≤ many := by omega
        have i2 : (many : Int) ≤ 255 := by omega
        by_cases hlm : k + 1 < many
        · have i3 : (k : Int) + 1 < many := by omega
          go_wp2_with fail
          exact hR.out _ _ (.inl ⟨rfl, HFIN.out⟩)
        · have i3 : decide ((k : Int) + 1 < many) = false := by simp; omega
          go_wp2_with fail
          exact hR.out _ _ (.inr ⟨rfl, HFIN.out.1.ext, HFIN2.out, HFIN.out.1.num, by simp⟩)
end Go.Proofs.Ytokfmfgnjhapiaa
