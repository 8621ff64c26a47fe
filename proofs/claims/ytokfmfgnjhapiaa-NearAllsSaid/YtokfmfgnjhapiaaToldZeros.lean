/- What is told of numbers that are all 0, or 1; of too many; of some below 0. -/
import Derived.Test.YtokfmfgnjhapiaaNearAwake
namespace Go.Proofs.Ytokfmfgnjhapiaa
open Go.RowKit
set_option linter.unusedVariables false
set_option linter.unusedSimpArgs false

theorem setOf_same (y : List Int) (k : Nat) : setOf (List.replicate (k + 1) y) = [y] := by
  have h : ∀ k, (List.replicate k y).foldl putL [y] = [y] := fun k => by
    induction k with
    | zero => rfl
    | succ k ih => rw [List.replicate_succ, List.foldl_cons]; simpa [putL, lessL_self] using ih
  rw [setOf, List.replicate_succ, List.foldl_cons]
  exact h k
theorem cut_zeros (z : Int) (n m k : Nat) (h : k + m ≤ n) : cutL (List.replicate n z) m k = List.replicate (n - m) z := by
  unfold cutL
  rw [List.take_replicate, List.drop_replicate, List.replicate_append_replicate]
  congr 1
  omega
theorem spans_same (z : Int) (n m : Nat) (h : m ≤ n) : spansL (List.replicate n z) m = List.replicate (n - m + 1) (List.replicate (n - m) z) := by
  unfold spansL
  rw [List.length_replicate]
  apply List.ext_getElem
  · simp
  · intro i h1 h2
    simp only [List.length_map, List.length_range] at h1
    simp only [List.getElem_map, List.getElem_range, List.getElem_replicate]
    exact cut_zeros z n m i (by omega)
theorem nth_zeros (n k : Nat) : nth (List.replicate n 0) k = 0 := by
  unfold nth
  rw [List.getElem?_replicate]
  split <;> rfl
theorem changes_zeros (n : Nat) : changesL (List.replicate n 0) = [] := by
  unfold changesL
  rw [List.flatMap_eq_nil_iff]
  intro k _
  simp [chgL, downs, turnsL, nth_zeros]
theorem negs_same {z : Int} (h : 0 ≤ z) (n : Nat) : negs (List.replicate n z) = false := by
  unfold negs
  rw [List.any_eq_false]
  intro x hx
  rw [(List.mem_replicate.1 hx).2]
  simpa using h
theorem may_same {z : Int} (h : 0 ≤ z) (n : Nat) : mayL (List.replicate n z) = decide (n ≤ 128) := by simp [mayL, negs_same h]
theorem flatMap_one {α β : Type} {f : α → List β} {g : α → β} : ∀ {l : List α}, (∀ i ∈ l, f i = [g i]) → l.flatMap f = l.map g
  | [], _ => rfl
  | a :: l, h => by rw [List.flatMap_cons, h a (by simp), flatMap_one fun i hi => h i (by simp [hi])]; rfl
theorem phases_same (z : Int) (n : Nat) : phases (List.replicate n z) 0 = (List.range n).map fun i => List.replicate i z := by
  unfold phases
  rw [List.length_replicate, Nat.sub_zero]
  refine flatMap_one fun i hi => ?_
  have hi' := List.mem_range.1 hi
  rw [spans_same z n (n - i) (by omega), setOf_same]
  have : n - (n - i) = i := by omega
  rw [this]
theorem told_zeros {n : Nat} (h : n ≤ 128) : toldL (List.replicate n 0) = (List.range n).map fun i => List.replicate i 0 := by
  rw [told_yes (by rw [may_same (by omega)]; simpa using h), changes_zeros, phases_same]
  simp [setOf]
theorem told_many {n : Nat} (h : 128 < n) : toldL (List.replicate n 0) = [] := told_no (by rw [may_same (by omega)]; simpa using h)
theorem told_below {xs : List Int} {k : Nat} (h : k < xs.length) : toldL (xs.set k (-1)) = [] := told_no (by
  have : negs (xs.set k (-1)) = true := by
    unfold negs
    rw [List.any_eq_true]
    exact ⟨-1, by rw [List.mem_iff_getElem]; exact ⟨k, by simpa using h, by simp⟩, by decide⟩
  simp [mayL, this])
theorem told_ones : ∀ n < 20, (toldL (List.replicate n 1)).length = 2 * n := by decide +kernel
end Go.Proofs.Ytokfmfgnjhapiaa
