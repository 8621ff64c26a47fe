/- NearRows: the closure that goes on to one of the neighbours. -/
import Derived.Test.YtokfmfgnjhapiaaNearLessWalk
namespace Go.Proofs.Ytokfmfgnjhapiaa
open Go.RowKit
set_option linter.unusedVariables false
set_option linter.unusedSimpArgs false

/-- Numbers from 0 up, not many. -/
def Few (xs : List Int) : Prop := xs.length ≤ 8 ∧ ∀ v ∈ xs, 0 ≤ v ∧ v ≤ 9223372036854775807
theorem Few.may {xs : List Int} (h : Few xs) : mayL xs = true := by
  unfold mayL negs
  simp only [Bool.and_eq_true, decide_eq_true_eq, Bool.not_eq_true', List.any_eq_false]
  exact ⟨by have := h.1; omega, fun v hv => by simpa using (h.2 v hv).1⟩
theorem Few.range {xs : List Int} (h : Few xs) : ∀ v ∈ xs, -9223372036854775808 ≤ v ∧ v ≤ 9223372036854775807 := fun v hv => ⟨by have := (h.2 v hv).1; omega, (h.2 v hv).2⟩
theorem mem_set_few {xs : List Int} {k : Nat} {d v : Int} (h : ∀ v ∈ xs, 0 ≤ v ∧ v ≤ 9223372036854775807) (hd : 0 ≤ d ∧ d ≤ 9223372036854775807) (hv : v ∈ xs.set k d) : 0 ≤ v ∧ v ≤ 9223372036854775807 := by
  rcases List.mem_or_eq_of_mem_set hv with h1 | rfl
  · exact h v h1
  · exact hd
theorem nth_few {xs : List Int} {k : Nat} (hk : k < xs.length) (h : ∀ v ∈ xs, 0 ≤ v ∧ v ≤ 9223372036854775807) : 0 ≤ nth xs k ∧ nth xs k ≤ 9223372036854775807 := by
  rw [nth_at hk]; exact h _ (List.getElem_mem hk)
theorem Few.told {xs y : List Int} (h : Few xs) (hy : y ∈ toldL xs) : Few y := by
  have hm := h.may
  rw [← told_ref hm, mem_setOf, List.mem_append] at hy
  rcases hy with hy | hy
  · obtain ⟨a, ha, hy⟩ := List.mem_flatMap.1 hy
    obtain ⟨j, hj, rfl⟩ := List.mem_map.1 hy
    refine ⟨?_, fun v hv => ?_⟩
    · have := h.1; rw [List.length_append, List.length_take, List.length_drop]; omega
    · rcases List.mem_append.1 hv with hv | hv
      · exact h.2 v (List.mem_of_mem_take hv)
      · exact h.2 v (List.mem_of_mem_drop hv)
  · obtain ⟨k, hk, hc⟩ := List.mem_flatMap.1 hy
    have hk := List.mem_range.1 hk
    refine ⟨by rw [changesL_length hy]; exact h.1, fun v hv => ?_⟩
    unfold chgL downs turnsL at hc
    have h0 := nth_few hk h.2
    rcases List.mem_append.1 hc with hc | hc
    · split at hc
      · rename_i hp
        simp only [List.mem_cons, List.not_mem_nil, or_false] at hc
        rcases hc with rfl | rfl | rfl
        · exact mem_set_few h.2 (by omega) hv
        · exact mem_set_few h.2 (by omega) hv
        · exact mem_set_few h.2 (by omega) hv
      · cases hc
    · split at hc
      · rename_i hp
        simp only [List.mem_singleton] at hc
        subst hc
        have h1 := nth_few (k := k - 1) (by omega) h.2
        exact mem_set_few (fun v hv => mem_set_few h.2 h1 hv) h0 hv
      · cases hc

/-- What the law's closure keeps. -/
structure RSt (w4 : World) (ba bk bx D cb : Nat) (A : Option Addr) (n c q : Nat) (pre : List (List Int)) (T : Nat → Prop) (W : World) : Prop where
  ext : Ext w4 W
  cat : W.cell? ⟨ba, 0, none⟩ = some (.int .i64 q)
  num : W.cell? ⟨bk, 0, none⟩ = some (.int .i64 pre.length)
  snum : W.frozen? ⟨bk, 0, none⟩ = false
  snext : W.frozen? ⟨bx, 0, none⟩ = false
  next : ∃ u, W.cell? ⟨bx, 0, none⟩ = some u
  box : W.cell? ⟨cb, 0, none⟩ = some (.slice A n c)
  out : ∀ b, T b → D ≤ b
  size : D ≤ W.heap.size
  few : pre.length ≤ q
structure REnd (w4 : World) (bx : Nat) (pre : List (List Int)) (W : World) : Prop where
  ext : Ext w4 W
  next : ∃ e : IRow, W.cell? ⟨bx, 0, none⟩ = some e.val ∧ Fresh 0 W e ∧ pre.getLast? = some e.xs

theorem RSt.steady {w4 : World} {ba bk bx D cb : Nat} {A : Option Addr} {n c q : Nat} (h4 : w4.heap.size ≤ D) (h1 : ba < D) (h2 : bk < D) (h3 : cb < D) (h5 : bx < D) : Steady (RSt w4 ba bk bx D cb A n c q) := by
  intro pre T T' W W' h hk ht
  have hs : ∀ b, b < D → ¬ T b := fun b hb q => by have := h.out b q; omega
  have hz := h.size
  obtain ⟨u, hu⟩ := h.next
  exact ⟨Keeps.below h.ext hk fun k hk' => hs k (by omega), hk.cell (hs _ h1) h.cat, hk.cell (hs _ h2) h.num, (World.frozen?_of_block (hk.block _ (by simp; omega) (hs _ h2))).trans h.snum,
    (World.frozen?_of_block (hk.block _ (by simp; omega) (hs _ h5))).trans h.snext, ⟨u, hk.cell (hs _ h5) hu⟩, hk.cell (hs _ h3) h.box, fun b hb => (ht b hb).elim (h.out b) fun q => Nat.le_trans h.size q, Nat.le_trans h.size hk.size, h.few⟩

set_option maxHeartbeats 1000000 in
theorem rows1 (w4 : World) (ba bk bx D cb : Nat) (A : Option Addr) (n c q : Nat) (hq : q ≤ 20000) (h4a : w4.heap.size ≤ ba) (h4k : w4.heap.size ≤ bk) (h4x : w4.heap.size ≤ bx) (hak : ba ≠ bk) (hax : ba ≠ bx) (hkx : bk ≠ bx) (haD : ba < D) (hkD : bk < D) (hxD : bx < D) (hcD : cb < D) (hca : cb ≠ bk) (hcx : cb ≠ bx)
    (pre : List (List Int)) (T : Nat → Prop) (W : World) (e : IRow) (h : RSt w4 ba bk bx D cb A n c q pre T W) (hf : Fresh 0 W e) (hbt : ∀ b, blk e = some b → T b) :
    Calls Try.prog 27 #[e.val, .pointer (some ⟨bx, 0, none⟩), .pointer (some ⟨bk, 0, none⟩), .pointer (some ⟨ba, 0, none⟩)] W
      (YPost (RSt w4 ba bk bx D cb A n c q) (REnd w4 bx) pre T e W) := by
  refine of_post fun R hR => ?_
  have hED : ∀ b, blk e = some b → D ≤ b := fun b hb => h.out b (hbt b hb)
  obtain ⟨u, hu⟩ := h.next
  have g1 := h.cat
  have g2 := h.num
  have g3 := h.snum
  have g4 := h.snext
  have hvale : e.val = .slice e.A e.xs.length e.c := rfl
  have HS := Lib.hid h
  have HE := Lib.hid hf
  have HED := Lib.hid hED
  have hpq := h.few
  have hDW := h.size
  clear h hf hbt hED
  have HV := Lib.hid hvale
  have HPN : Hid ((pre ++ [e.xs]).length = pre.length + 1) := Lib.hid (by simp)
  have HPL : Hid ((pre ++ [e.xs]).getLast? = some e.xs) := Lib.hid (by simp)
  obtain ⟨k, hk⟩ : ∃ k, pre.length = k := ⟨_, rfl⟩
  have HK := Lib.hid hk
  rw [hk] at g2 hpq
  clear hk
  rw [hvale]
  obtain ⟨v, hv⟩ : ∃ v, (.slice e.A e.xs.length e.c : Value) = v := ⟨_, rfl⟩
  have HVV := Lib.hid (hvale.trans hv)
  clear hvale
  generalize e.xs.length = en at *
  have hka : ¬ bk = ba := fun q => hak q.symm
  have hxa : ¬ bx = ba := fun q => hax q.symm
  have hxk : ¬ bx = bk := fun q => hkx q.symm
  have k1 : Keeps (fun b => b = bx) W (W.setCell ⟨bx, 0, none⟩ (.slice e.A en e.c)) := Keeps.setCell (S := fun b => b = bx) (Keeps.refl _ W) (p := ⟨bx, 0, none⟩) rfl _
  have k2 : Keeps (fun b => b = bk) (W.setCell ⟨bx, 0, none⟩ (.slice e.A en e.c)) ((W.setCell ⟨bx, 0, none⟩ (.slice e.A en e.c)).setCell ⟨bk, 0, none⟩ (.int .i64 ((k : Int) + 1))) := Keeps.setCell (S := fun b => b = bk) (Keeps.refl _ _) (p := ⟨bk, 0, none⟩) rfl _
  have hk' := (k1.mono (S' := fun b => b = bx ∨ b = bk) fun b _ q => .inl q).trans (k2.mono fun b _ q => .inr q)
  have c1 : (W.setCell ⟨bx, 0, none⟩ (.slice e.A en e.c)).cell? ⟨bx, 0, none⟩ = some v := by rw [hv]; exact World.cell?_setCell_same' _ _ _ (by rw [hu]; rfl)
  have c2 := k2.cell (p := ⟨bx, 0, none⟩) hxk c1
  have c3 := k1.cell (p := ⟨bk, 0, none⟩) hkx g2
  have c4 : ((W.setCell ⟨bx, 0, none⟩ (.slice e.A en e.c)).setCell ⟨bk, 0, none⟩ (.int .i64 ((k : Int) + 1))).cell? ⟨bk, 0, none⟩ = some (.int .i64 ((k + 1 : Nat) : Int)) := World.cell?_setCell_same' _ _ _ (by rw [c3]; rfl)
  have hF := HE.out.keeps hk' fun b hb q => by have := HED.out b hb; omega
  have HFIN : Hid (Keeps (fun b => b = bx ∨ b = bk) W ((W.setCell ⟨bx, 0, none⟩ (.slice e.A en e.c)).setCell ⟨bk, 0, none⟩ (.int .i64 ((k : Int) + 1)))) := Lib.hid hk'
  have HC := Lib.hid (And.intro c2 (And.intro c4 hF))
  clear k1 k2 hk' c1 c2 c3 c4 hF hv
  by_cases hlt : k + 1 ≤ q
  · have i3 : (k : Int) + 1 ≤ q := by omega
    go_enter Try.func27, Try.ntmps27
    go_wp2_with fail
    refine hR.out _ _ (.inl ⟨rfl, ⟨Keeps.below HS.out.ext HFIN.out fun b hb q => (by omega), HFIN.out.cell (p := ⟨ba, 0, none⟩) (fun q => by simp at q; omega) g1, (by rw [HPN.out, HK.out]; exact HC.out.2.1), (by simpa using g3), (by simpa using g4), ⟨_, HC.out.1⟩, HFIN.out.cell (p := ⟨cb, 0, none⟩) (fun q => by simp at q; omega) HS.out.box, HS.out.out, (by simpa using hDW), (by rw [HPN.out, HK.out]; exact hlt)⟩, HFIN.out.mono fun b _ q => .inl fun hT => (by have := HS.out.out b hT; omega)⟩)
  · have i3 : decide ((k : Int) + 1 ≤ q) = false := by simp; omega
    go_enter Try.func27, Try.ntmps27
    go_wp2_with fail
    exact hR.out _ _ (.inr ⟨rfl, Keeps.below HS.out.ext HFIN.out fun b hb q => (by omega), e, by rw [HVV.out]; exact HC.out.1, HC.out.2.2, HPL.out⟩)
end Go.Proofs.Ytokfmfgnjhapiaa
