/- near.Is. -/
import Derived.Test.YtokfmfgnjhapiaaNearCount
namespace Go.Proofs.Ytokfmfgnjhapiaa
open Go.RowKit Go.Shelf
attribute [local go_sem] Oper.semAt_some
set_option linter.unusedVariables false
set_option linter.unusedSimpArgs false

/-- What Is's loop keeps. -/
structure ISt (w : World) (A B : Option Addr) (n c m d : Nat) (ys : List Int) (pre : List (List Int)) (T : Nat → Prop) (W : World) : Prop where
  ext : Ext w W
  boxm : W.cell? ⟨w.heap.size, 0, none⟩ = some (.slice B m d)
  res : W.cell? ⟨w.heap.size + 1, 0, none⟩ = some (.bool false)
  soft : W.frozen? ⟨w.heap.size + 1, 0, none⟩ = false
  box : W.cell? ⟨w.heap.size + 2, 0, none⟩ = some (.slice A n c)
  out : ∀ b, T b → w.heap.size + 3 ≤ b
  size : w.heap.size + 3 ≤ W.heap.size
  none : ys ∉ pre
theorem ISt.keeps {w : World} {A B : Option Addr} {n c m d : Nat} {ys : List Int} {pre : List (List Int)} {T T' S : Nat → Prop} {W W' : World} (h : ISt w A B n c m d ys pre T W) (hk : Keeps S W W') (hs : ∀ b, b < w.heap.size + 3 → ¬ S b) (ht : ∀ b, T' b → w.heap.size + 3 ≤ b) : ISt w A B n c m d ys pre T' W' :=
  ⟨Keeps.below h.ext hk fun k hk' => hs k (by omega), hk.cell (hs _ (by simp)) h.boxm, hk.cell (hs _ (by simp)) h.res, (World.frozen?_of_block (hk.block _ (by have := h.size; simp; omega) (hs _ (by simp)))).trans h.soft, hk.cell (hs _ (by simp)) h.box, ht, Nat.le_trans h.size hk.size, h.none⟩

theorem new_cell (w : World) (v : Value) (t : TypeId) : (w.alloc (.cells #[v] t)).cell? ⟨w.heap.size, 0, none⟩ = some v := by simp

set_option maxHeartbeats 1000000 in
theorem is_any (A B : Option Addr) (xs ys : List Int) (n c m d : Nat) (w : World) (hA : IS w A xs) (hB : IS w B ys) (hx : xs.length = n) (hy : ys.length = m) (hc : n ≤ c) (hcm : c ≤ maxLen) (hd : m ≤ maxLen) (hr : ∀ x ∈ xs, -9223372036854775808 ≤ x ∧ x ≤ 9223372036854775807) :
    Calls Try.prog 22 #[.slice A n c, .slice B m d] w fun e w' => e = .returned (.bool (decide (ys ∈ toldL xs))) ∧ Ext w w' := by
  refine (callsIn_wide (n := 3)).1 ?_
  refine of_postIn fun R hR => ?_
  have HA := Lib.hid hA
  have HB := Lib.hid hB
  have Hx := Lib.hid hx
  have Hy := Lib.hid hy
  have Hr := Lib.hid hr
  clear hA hB hx hy hr
  refine callsIn_of_wp_marks Try.func22 rfl trivial ?_ rfl
  simp only [Try.ntmps22, List.size_toArray, List.length_cons, List.length_nil, Nat.reduceAdd, Nat.reduceSub, Array.replicate_succ, Array.replicate_zero, List.push_toArray, List.append_toArray, List.nil_append, List.cons_append]
  gi_wp2_with fail
  refine ⟨trivial, callsIn_wide.2 ((all_made A n c _).mono ?_)⟩
  rintro e w1 ⟨rfl, rfl⟩
  gi_wp2_with fail
  obtain ⟨W0, hW0⟩ : ∃ W0, ((w.alloc (.cells #[.slice B m d] 24)).alloc (.cells #[.bool false] 4)).alloc (.cells #[.slice A n c] 24) = W0 := ⟨_, rfl⟩
  have hS0 : ISt w A B n c m d ys [] (fun _ => False) W0 := by
    rw [← hW0]
    have n1 := new_cell w (.slice B m d) 24
    have n2 := new_cell (w.alloc (.cells #[.slice B m d] 24)) (.bool false) 4
    have n3 := new_cell ((w.alloc (.cells #[.slice B m d] 24)).alloc (.cells #[.bool false] 4)) (.slice A n c) 24
    have s1 : (w.alloc (.cells #[.slice B m d] 24)).heap.size = w.heap.size + 1 := by simp
    have s2 : ((w.alloc (.cells #[.slice B m d] 24)).alloc (.cells #[.bool false] 4)).heap.size = w.heap.size + 2 := by simp
    have n4 : ((w.alloc (.cells #[.slice B m d] 24)).alloc (.cells #[.bool false] 4)).frozen? ⟨w.heap.size + 1, 0, none⟩ = false := by simp
    rw [s1] at n2
    rw [s2] at n3
    exact ⟨(((Ext.refl' w).alloc' _).alloc' _).alloc' _, (((Ext.refl' _).alloc' _).alloc' _).cell' n1, ((Ext.refl' _).alloc' _).cell' n2, (World.frozen?_of_block (((Ext.refl' _).alloc' _).block _ (by rw [s2]; simp))).trans n4, n3, fun b hb => hb.elim, by simp, by simp⟩
  have hz : W0.heap.size = w.heap.size + 3 := by rw [← hW0]; simp
  rw [hW0]
  refine near_range (w.heap.size + 2) A xs n c rfl Hx.out hc hcm Hr.out (fun pre T W => ISt w A B n c m d ys pre T W) (fun pre W => Ext w W ∧ W.cell? ⟨w.heap.size + 1, 0, none⟩ = some (.bool true) ∧ ys ∈ pre) ?_ (fun pre T W h => ⟨h.box, HA.out.ext h.ext⟩) ?_ ?_ hS0
    (fun e => { tmps := #[.slice A n c, .slice B m d, undef, .pointer (some ⟨w.heap.size, 0, none⟩), .pointer (some ⟨w.heap.size + 1, 0, none⟩), e.val, .slice A n c, .func (.func 33) #[] #[.pointer (some ⟨w.heap.size + 2, 0, none⟩)], e.val, undef, undef, undef], defers := [] }) ?_ ?_ ?_ ?_
  · intro pre T T' W W' h hk ht
    exact h.keeps hk (fun b hb q => by have := h.out b q; omega) fun b hb => (ht b hb).elim (h.out b) fun q => Nat.le_trans h.size q
  · intro pre T W W' h hk
    exact h.keeps hk (fun b hb q => by omega) h.out
  · rintro pre W W' ⟨h1, h2, h3⟩ hk
    exact ⟨Keeps.below h1 hk fun b hb q => by omega, hk.cell (p := ⟨w.heap.size + 1, 0, none⟩) (fun q => by simp at q; omega) h2, h3⟩
  · intro e W K hK
    gi_wp2
    simpa using hK
  · intro pre T e W h hpre hf hT
    have hval : e.val = .slice e.A e.xs.length e.c := rfl
    have HEQ := Lib.hid (equal_any e.A B e.xs ys e.c d W (IS_of_cells hf.ok) (HB.out.ext h.ext) (Nat.le_trans hf.le hf.cap) (by rw [Hy.out]; exact hd))
    rw [Hy.out] at HEQ
    rw [hval]
    have c1 := h.boxm
    have HS := Lib.hid h
    clear h hpre hf hT hval
    generalize hk : e.xs.length = k at *
    gi_wp2_with fail
    refine ⟨trivial, CallsIn.inRound _ (callsIn_wide.2 (HEQ.out.mono ?_))⟩
    rintro q w3 ⟨rfl, nq, rfl⟩
    by_cases hxq : e.xs = ys
    · rw [decide_eq_true hxq]
      have c2 : (W.drewN nq).cell? ⟨w.heap.size + 1, 0, none⟩ = some (.bool false) := HS.out.res
      have c3 : (W.drewN nq).frozen? ⟨w.heap.size + 1, 0, none⟩ = false := HS.out.soft
      obtain ⟨W4, hW4⟩ : ∃ W4, W4 = W.drewN nq := ⟨_, rfl⟩
      rw [← hW4] at c2 c3 ⊢
      have HW4 := Lib.hid hW4
      have HXQ := Lib.hid hxq
      clear hW4 hxq
      gi_wp2_with fail
      have hkp : Keeps (fun b => b = w.heap.size + 1) W (W4.setCell ⟨w.heap.size + 1, 0, none⟩ (.bool true)) := by
        rw [HW4.out]
        exact ((Keeps.refl (fun b => b = w.heap.size + 1) W).drewN nq).setCell (p := ⟨w.heap.size + 1, 0, none⟩) rfl _
      exact ⟨hkp.mono fun b _ q => by omega, Keeps.below HS.out.ext hkp fun b hb q => by omega, World.cell?_setCell_same' _ _ _ (by rw [c2]; rfl), by simp [HXQ.out]⟩
    · rw [decide_eq_false hxq]
      have HI : Hid (Keeps (fun b => b < W0.heap.size) W (W.drewN nq) ∧ ISt w A B n c m d ys (pre ++ [e.xs]) T (W.drewN nq)) := Lib.hid ⟨(Keeps.refl _ W).drewN nq,
        ⟨HS.out.ext.drewN' nq, HS.out.boxm, HS.out.res, HS.out.soft, HS.out.box, HS.out.out, HS.out.size, fun q => by
          rcases List.mem_append.1 q with q | q
          · exact HS.out.none q
          · simp only [List.mem_singleton] at q; exact hxq q.symm⟩⟩
      clear hxq
      gi_wp2_with fail
      exact HI.out
  · intro T W h hd
    have c1 := h.res
    have c2 := h.soft
    have HS := Lib.hid h
    have HD := Lib.hid hd
    clear h hd
    gi_wp2_with fail
    have hkp : Keeps (fun b => b = w.heap.size + 1) W (W.setCell ⟨w.heap.size + 1, 0, none⟩ (.bool false)) := (Keeps.refl (fun b => b = w.heap.size + 1) W).setCell (p := ⟨w.heap.size + 1, 0, none⟩) rfl _
    have hd2 : (W.setCell ⟨w.heap.size + 1, 0, none⟩ (.bool false)).heap[W0.heap.size]? = some (.deferred (some [])) := (hkp.block _ (Array.getElem?_eq_some_iff.1 HD.out).1 (by omega)).trans HD.out
    have hk2 : Keeps (fun b => b = W0.heap.size) (W.setCell ⟨w.heap.size + 1, 0, none⟩ (.bool false)) ((W.setCell ⟨w.heap.size + 1, 0, none⟩ (.bool false)).putObj W0.heap.size (.deferred none)) := putObj_keeps _ _ _ rfl
    refine ⟨by simp, .inl ⟨_, _, rfl, run_takeDeferred hd2, ?_⟩⟩
    have hc3 := hk2.cell (p := ⟨w.heap.size + 1, 0, none⟩) (fun q => by simp at q; omega) (World.cell?_setCell_same' W ⟨w.heap.size + 1, 0, none⟩ (.bool false) (by rw [c1]; rfl))
    refine ⟨.bool false, ?_, hR.out _ _ ⟨by rw [decide_eq_false HS.out.none], Keeps.below (Keeps.below HS.out.ext hkp fun b hb q => by omega) hk2 fun b hb q => by omega⟩⟩
    simp [results, Try.results22, go_sem, hc3]
  · rintro pre W hpre ⟨h1, h2, h3⟩ hd
    have HD := Lib.hid hd
    clear hd
    gi_wp2_with fail
    have hk2 : Keeps (fun b => b = W0.heap.size) W (W.putObj W0.heap.size (.deferred none)) := putObj_keeps _ _ _ rfl
    refine ⟨by simp, .inl ⟨_, _, rfl, run_takeDeferred HD.out, ?_⟩⟩
    have hc3 := hk2.cell (p := ⟨w.heap.size + 1, 0, none⟩) (fun q => by simp at q; omega) h2
    have hmem : ys ∈ toldL xs := hpre.subset h3
    refine ⟨.bool true, ?_, hR.out _ _ ⟨by rw [decide_eq_true hmem], Keeps.below h1 hk2 fun b hb q => by omega⟩⟩
    simp [results, Try.results22, go_sem, hc3]
end Go.Proofs.Ytokfmfgnjhapiaa
