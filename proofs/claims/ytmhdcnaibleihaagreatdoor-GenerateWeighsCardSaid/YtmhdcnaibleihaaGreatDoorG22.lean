/- The texts of weights, item by item. -/
import Derived.Test.YtmhdcnaibleihaaGreatDoorG21

namespace Go.Proofs.YtmhdcnaibleihaaGreatDoor
set_option maxRecDepth 100000
open Go.RowKit
set_option linter.unusedVariables false
set_option linter.unusedSimpArgs false

theorem bodyB_snoc (l : List (Nat × Nat)) (h : l ≠ []) (p : Nat × Nat) : bodyB (l ++ [p]) = bodyB l ++ ([44, 32] ++ itemB p) := by
  induction l with
  | nil => exact absurd rfl h
  | cons x l ih =>
    cases l with
    | nil => rfl
    | cons y l => 
      have := ih (by simp)
      simp only [List.cons_append] at this ⊢
      simp [bodyB, this]
/-- The items of a text: each weight, with its place. -/
def itm (ws : List Nat) : List (Nat × Nat) := ws.mapIdx fun i w => (1 + w % 9, i)
theorem itm_take (ws : List Nat) (i : Nat) (h : i < ws.length) : itm (ws.take (i + 1)) = itm (ws.take i) ++ [(1 + ws[i] % 9, i)] := by
  unfold itm
  rw [List.take_add_one, List.getElem?_eq_getElem h, Option.toList_some, List.mapIdx_append]
  simp [Nat.min_eq_left (Nat.le_of_lt h)]
theorem itm_len (ws : List Nat) : (itm ws).length = ws.length := by simp [itm]
theorem itm_ne (ws : List Nat) (h : ws ≠ []) : itm ws ≠ [] := by intro e; have := itm_len ws; rw [e] at this; exact h (List.length_eq_zero_iff.1 this.symm)
theorem itm_lt (ws : List Nat) (h : ws.length ≤ 10) : ∀ p ∈ itm ws, 1 ≤ p.1 ∧ p.1 < 10 ∧ p.2 < 10 := by
  intro p hp
  obtain ⟨i, hi, rfl⟩ := List.mem_mapIdx.1 hp
  refine ⟨?_, ?_, by show i < 10; omega⟩
  · show 1 ≤ 1 + ws[i] % 9
    omega
  · show 1 + ws[i] % 9 < 10
    omega
/-- The weights of a text. -/
def wei (ws : List Nat) : List Int := ws.map fun w => ((1 + w % 9 : Nat) : Int)
theorem itm_fst (ws : List Nat) : (itm ws).map (fun p => (p.1 : Int)) = wei ws := by
  unfold itm wei; apply List.ext_getElem <;> simp
theorem itm_snd (ws : List Nat) : (itm ws).map (fun p => (p.2 : Int)) = (List.range ws.length).map fun i : Nat => (i : Int) := by
  unfold itm; apply List.ext_getElem <;> simp
theorem wei_good (ws : List Nat) : ∀ n ∈ wei ws, 1 ≤ n ∧ n ≤ 1000 := by
  intro n hn
  obtain ⟨w, _, rfl⟩ := List.mem_map.1 hn
  omega
end Go.Proofs.YtmhdcnaibleihaaGreatDoor
