/- What near.All tells is the document's row, in plain words. -/
import Derived.Test.YtokfmfgnjhapiaaToldLaw
import Derived.Test.YtokfmfgnjhapiaaNearAll
namespace Go.Proofs.Ytokfmfgnjhapiaa
open Go.RowKit
set_option linter.unusedVariables false
set_option linter.unusedSimpArgs false

theorem lessL_short {a b : List Int} (h : a.length < b.length) : lessL a b = true := by
  unfold lessL
  rw [if_neg (by omega)]
  simpa using h
theorem rising_append {D E : List (List Int)} (hd : Rising D) (he : Rising E) (h : ∀ a ∈ D, ∀ b ∈ E, lessL a b = true) : Rising (D ++ E) := List.pairwise_append.2 ⟨hd, he, h⟩
theorem phases_rising (xs : List Int) : ∀ (d k : Nat), k + d = xs.length → Rising (phases xs k) ∧ ∀ y ∈ phases xs k, y.length + k + 1 ≤ xs.length
  | 0, k, h => by
    have : k = xs.length := by omega
    subst this
    rw [phases_top]
    exact ⟨List.Pairwise.nil, fun y hy => absurd hy (by simp)⟩
  | d + 1, k, h => by
    have ih := phases_rising xs d (k + 1) (by omega)
    rw [phases_step xs (k := k) (by omega)]
    have hl : ∀ y ∈ setOf (spansL xs (k + 1)), y.length = xs.length - (k + 1) := fun y hy => spansL_length (by omega) (mem_setOf.1 hy)
    refine ⟨rising_append ih.1 (rising_setOf _) fun a ha b hb => lessL_short (by have := ih.2 a ha; have := hl b hb; omega), fun y hy => ?_⟩
    rcases List.mem_append.1 hy with hy | hy
    · have := ih.2 y hy; omega
    · have := hl y hy; omega
theorem told_rising (xs : List Int) : Rising (toldL xs) := by
  cases hm : mayL xs with
  | false => rw [told_no hm]; exact List.Pairwise.nil
  | true =>
    rw [told_yes hm]
    have h := phases_rising xs xs.length 0 (by omega)
    exact rising_append h.1 (rising_setOf _) fun a ha b hb => lessL_short (by have := h.2 a ha; have := changesL_length (mem_setOf.1 hb); omega)

def gapsL (xs : List Int) : List (List Int) := (List.range xs.length).flatMap fun a => (List.range (xs.length - a)).map fun j => xs.take a ++ xs.drop (a + 1 + j)
theorem mem_phases {xs y : List Int} : y ∈ phases xs 0 ↔ y ∈ gapsL xs := by
  unfold phases gapsL
  simp only [List.mem_flatMap, List.mem_range, mem_setOf, List.mem_map, spansL, cutL, Nat.sub_zero]
  constructor
  · rintro ⟨i, hi, k, hk, rfl⟩
    refine ⟨k, by omega, xs.length - i - 1, by omega, ?_⟩
    have : k + 1 + (xs.length - i - 1) = k + (xs.length - i) := by omega
    rw [this]
  · rintro ⟨a, ha, j, hj, rfl⟩
    refine ⟨xs.length - (j + 1), by omega, a, by omega, ?_⟩
    have h1 : xs.length - (xs.length - (j + 1)) = j + 1 := by omega
    have : a + 1 + j = a + (j + 1) := by omega
    rw [h1, this]
theorem told_ref {xs : List Int} (hm : mayL xs = true) : setOf (gapsL xs ++ changesL xs) = toldL xs := by
  refine rising_ext (rising_setOf _) (told_rising xs) fun y => ?_
  rw [mem_setOf, told_yes hm, List.mem_append, List.mem_append, mem_phases, mem_setOf]
end Go.Proofs.Ytokfmfgnjhapiaa
