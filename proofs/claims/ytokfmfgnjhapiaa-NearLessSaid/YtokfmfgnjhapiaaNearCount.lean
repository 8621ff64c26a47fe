/- near.All, Count, Is. -/
import Derived.Test.YtokfmfgnjhapiaaNearRange
namespace Go.Proofs.Ytokfmfgnjhapiaa
open Go.RowKit Go.Shelf
attribute [local go_sem] Oper.semAt_some
set_option linter.unusedVariables false
set_option linter.unusedSimpArgs false

theorem all_made (A : Option Addr) (n c : Nat) (w : World) : Calls Try.prog 19 #[.slice A n c] w fun e w' => e = .returned (.func (.func 33) #[] #[.pointer (some ⟨w.heap.size, 0, none⟩)]) ∧ w' = w.alloc (.cells #[.slice A n c] 24) := by
  refine of_post fun R hR => ?_
  go_enter Try.func19, Try.ntmps19
  go_wp2_with fail
  exact hR.out _ _ ⟨rfl, rfl⟩

/-- What Count's loop keeps: k rounds are over. -/
structure CSt (w : World) (A : Option Addr) (n c : Nat) (k : Nat) (T : Nat → Prop) (W : World) : Prop where
  ext : Ext w W
  num : W.cell? ⟨w.heap.size, 0, none⟩ = some (.int .i64 k)
  soft : W.frozen? ⟨w.heap.size, 0, none⟩ = false
  box : W.cell? ⟨w.heap.size + 1, 0, none⟩ = some (.slice A n c)
  out : ∀ b, T b → w.heap.size + 2 ≤ b
  size : w.heap.size + 2 ≤ W.heap.size
theorem CSt.keeps {w : World} {A : Option Addr} {n c k : Nat} {T T' S : Nat → Prop} {W W' : World} (h : CSt w A n c k T W) (hk : Keeps S W W') (hs : ∀ b, b < w.heap.size + 2 → ¬ S b) (ht : ∀ b, T' b → w.heap.size + 2 ≤ b) : CSt w A n c k T' W' :=
  ⟨Keeps.below h.ext hk fun k hk' => hs k (by omega), hk.cell (hs _ (by simp)) h.num, (World.frozen?_of_block (hk.block _ (by have := h.size; simp; omega) (hs _ (by simp)))).trans h.soft, hk.cell (hs _ (by simp)) h.box, ht, Nat.le_trans h.size hk.size⟩

set_option maxHeartbeats 1000000 in
theorem count_any (A : Option Addr) (xs : List Int) (n c : Nat) (w : World) (hA : IS w A xs) (hx : xs.length = n) (hc : n ≤ c) (hcm : c ≤ maxLen) (hr : ∀ x ∈ xs, -9223372036854775808 ≤ x ∧ x ≤ 9223372036854775807) (hsm : (toldL xs).length ≤ 1000000) :
    Calls Try.prog 21 #[.slice A n c] w fun e w' => e = .returned (.int .i64 (toldL xs).length) ∧ Ext w w' := by
  refine (callsIn_wide (n := 3)).1 ?_
  refine of_postIn fun R hR => ?_
  have HA := Lib.hid hA
  have Hx := Lib.hid hx
  have Hr := Lib.hid hr
  have Hsm := Lib.hid hsm
  clear hA hx hr hsm
  refine callsIn_of_wp_marks Try.func21 rfl trivial ?_ rfl
  simp only [Try.ntmps21, List.size_toArray, List.length_cons, List.length_nil, Nat.reduceAdd, Nat.reduceSub, Array.replicate_succ, Array.replicate_zero, List.push_toArray, List.append_toArray, List.nil_append, List.cons_append]
  gi_wp2_with fail
  refine ⟨trivial, callsIn_wide.2 ((all_made A n c _).mono ?_)⟩
  rintro e w1 ⟨rfl, rfl⟩
  gi_wp2_with fail
  obtain ⟨W0, hW0⟩ : ∃ W0, (w.alloc (.cells #[.int .i64 0] 3)).alloc (.cells #[.slice A n c] 24) = W0 := ⟨_, rfl⟩
  have hS0 : CSt w A n c 0 (fun _ => False) W0 := by
    rw [← hW0]
    exact ⟨((Ext.refl' w).alloc' _).alloc' _, by simp, by simp, by simp, fun b hb => hb.elim, by simp⟩
  have hz : W0.heap.size = w.heap.size + 2 := by rw [← hW0]; simp
  rw [hW0]
  refine near_range (w.heap.size + 1) A xs n c rfl Hx.out hc hcm Hr.out (fun pre T W => CSt w A n c pre.length T W) (fun _ _ => False) ?_ (fun pre T W h => ⟨h.box, HA.out.ext h.ext⟩) ?_ (fun _ _ _ h _ => h) hS0
    (fun e => { tmps := #[.slice A n c, undef, .int .i64 0, .pointer (some ⟨w.heap.size, 0, none⟩), .slice A n c, .func (.func 33) #[] #[.pointer (some ⟨w.heap.size + 1, 0, none⟩)], e.val, undef, undef, undef], defers := [] }) ?_ ?_ ?_ ?_
  · intro pre T T' W W' h hk ht
    exact h.keeps hk (fun b hb q => by have := h.out b q; omega) fun b hb => (ht b hb).elim (h.out b) fun q => Nat.le_trans h.size q
  · intro pre T W W' h hk
    exact h.keeps hk (fun b hb q => by omega) h.out
  · intro e W K hK
    gi_wp2
    simpa using hK
  · intro pre T e W h hpre hf hT
    have c1 := h.num
    have c2 := h.soft
    have hb : pre.length + 1 ≤ 1000000 := by
      have h1 := hpre.length_le
      have h2 := Hsm.out
      simp at h1; omega
    have HS := Lib.hid h
    clear h hpre hf hT
    generalize hk : pre.length = k at *
    gi_wp2
    have hkp : Keeps (fun b => b = w.heap.size) W (W.setCell ⟨w.heap.size, 0, none⟩ (.int .i64 (k + 1))) := (Keeps.refl (fun b => b = w.heap.size) W).setCell (p := ⟨w.heap.size, 0, none⟩) rfl _
    refine ⟨hkp.mono fun b _ q => by omega, Keeps.below HS.out.ext hkp fun b hb q => by omega, ?_, by simpa using c2, hkp.cell (p := ⟨w.heap.size + 1, 0, none⟩) (by simp) HS.out.box, HS.out.out, by simpa using HS.out.size⟩
    rw [World.cell?_setCell_same' _ _ _ (by rw [c1]; rfl), List.length_append, hk]
    rfl
  · intro T W h hd
    have c1 := h.num
    have HS := Lib.hid h
    have HD := Lib.hid hd
    clear h hd
    generalize hk : (toldL xs).length = k at *
    gi_wp2
    refine ⟨by simp, .inl ⟨_, _, rfl, run_takeDeferred HD.out, ?_⟩⟩
    exact ⟨_, results_tmp rfl _ _ _, hR.out _ _ ⟨rfl, Keeps.below HS.out.ext (putObj_keeps (S := fun b => b = W0.heap.size) _ _ _ rfl) fun b hb q => by omega⟩⟩
  · intro pre W _ h
    exact h.elim
end Go.Proofs.Ytokfmfgnjhapiaa
