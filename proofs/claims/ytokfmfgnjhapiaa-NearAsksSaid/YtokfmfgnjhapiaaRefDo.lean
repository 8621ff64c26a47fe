/- The document's Do. -/
import Derived.Test.YtokfmfgnjhapiaaDoAny
import Derived.Test.YtokfmfgnjhapiaaLess
namespace Go.Proofs.Ytokfmfgnjhapiaa
open Go.RowKit
set_option linter.unusedVariables false
set_option linter.unusedSimpArgs false

def mayP (m0 m1 m2 m3 n m : Int) : Prop :=
  (m0 = 0 ∧ 0 ≤ m1 ∧ m1 < n ∧ 0 ≤ m3 ∧ m3 < 4294967296) ∨ (m0 = 1 ∧ 0 ≤ m1 ∧ m1 ≤ n ∧ 0 ≤ m2 ∧ m2 ≤ m) ∨ (m0 = 2 ∧ 0 ≤ m1 ∧ m1 ≤ n ∧ m1 ≤ m) ∨
  (m0 ≠ 0 ∧ m0 ≠ 1 ∧ m0 ≠ 2 ∧ 0 ≤ m1 ∧ m1 ≤ m2 ∧ m2 ≤ n ∧ (m0 ≠ 3 ∨ 0 ≤ m3 ∧ m3 ≤ n))
instance (m0 m1 m2 m3 n m : Int) : Decidable (mayP m0 m1 m2 m3 n m) := by unfold mayP; infer_instance

set_option maxHeartbeats 1000000 in
theorem may_any (m0 m1 m2 m3 : Int) (n m : Nat) (w : World) (hn : n ≤ 1000) (hm : m ≤ 1000) :
    Calls Try.prog 29 #[.agg #[.int .i64 m0, .int .i64 m1, .int .i64 m2, .int .i64 m3], .int .i64 n, .int .i64 m] w fun e w' => e = .returned (.bool (decide (mayP m0 m1 m2 m3 n m))) ∧ Ext w w' := by
  refine of_post fun R hR => ?_
  have hcs : m0 = 0 ∨ m0 = 1 ∨ m0 = 2 ∨ m0 = 3 ∨ (m0 ≠ 0 ∧ m0 ≠ 1 ∧ m0 ≠ 2 ∧ m0 ≠ 3) := by omega
  rcases hcs with rfl | rfl | rfl | rfl | h
  case inr.inr.inr.inr =>
    have HH := Lib.hid h
    obtain ⟨h0, h1, h2, h3⟩ := h
    have g0 : (m0 == 0) = false := by simpa using h0
    have g1 : (m0 == 1) = false := by simpa using h1
    have g2 : (m0 == 2) = false := by simpa using h2
    have g3 : (m0 != 3) = true := by simpa using h3
    clear h0 h1 h2 h3
    go_enter Try.func29, Try.ntmps29
    go_wp2
    all_goals exact hR.out _ _ ⟨ret_b rfl (by have := HH.out; clear g0 g1 g2 g3; unfold mayP; simp; omega), (Ext.refl' w).alloc' _⟩
  all_goals
    go_enter Try.func29, Try.ntmps29
    go_wp2
    all_goals exact hR.out _ _ ⟨ret_b rfl (by unfold mayP; simp; omega), (Ext.refl' w).alloc' _⟩
end Go.Proofs.Ytokfmfgnjhapiaa
