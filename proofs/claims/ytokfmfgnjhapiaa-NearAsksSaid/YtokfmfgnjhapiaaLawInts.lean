/- Arguments that are slices of ints, opened. -/
import Derived.Test.YtokfmfgnjhapiaaLawRow
import Derived.Test.YtokfmfgnjhapiaaLess
namespace Go.Proofs.Ytokfmfgnjhapiaa
open Go.ChangeShapes Go.WideShapes Go.ChangeAt Go.RowKit Go.Joins
set_option linter.unusedVariables false
set_option linter.unusedSimpArgs false

theorem cellsIntK : Try.prog.cellsOf 3 = 1 := by kernel_rfl

theorem read_ints {H : Type} {enc : TypeId × Value → H} {W : World} {fuel : Nat} {c : Value} {y : DataW H × List MemPlace}
    (h : DataW.trod enc Try.prog W 0 (fun _ => true) true fuel 24 [c] = some y) :
    ∃ (A : Option Addr) (xs : List Int) (cap : Nat), c = .slice A xs.length cap ∧ IS W A xs ∧ xs.length ≤ cap ∧ cap ≤ maxLen ∧ (∀ n ∈ xs, (Lit.int .i64 n).wf = true) := by
  rcases open_ints Try.underlying24 Try.underlying3 cellsIntK h with ⟨hcs, hx⟩ | ⟨a, len, cap, zs, hcs, _, hl, hm, hz, hx, hcell, hwz⟩
  · simp only [List.cons.injEq, and_true] at hcs
    exact ⟨none, [], 0, hcs, fun h => absurd rfl h, Nat.le_refl _, Nat.zero_le _, by simp⟩
  · simp only [List.cons.injEq, and_true] at hcs
    simp only [if_true] at hz
    have hlen : (zs.take len).length = len := by simp; omega
    refine ⟨some a, zs.take len, cap, by rw [hlen]; exact hcs, fun hne => ?_, by rw [hlen]; exact hl, hm, fun n hn => hwz n (List.mem_of_mem_take hn)⟩
    have hpos : 0 < len := by rw [← hlen]; exact List.length_pos_iff.2 hne
    obtain ⟨b, o, sp⟩ := a
    have hspot : sp = none := by simpa [Addr.add] using World.cell?_spot (hcell 0 (by omega))
    subst hspot
    refine ⟨b, o, rfl, fun k hk => ?_⟩
    rw [hlen] at hk
    have := hcell k (by omega)
    rw [add_plain] at this
    rw [this]
    simp [List.getElem?_take, hk]

theorem i64_range {n : Int} (h : (Lit.int .i64 n).wf = true) : -9223372036854775808 ≤ n ∧ n ≤ 9223372036854775807 := by
  have := h
  simp [Lit.wf, IntKind.min, IntKind.max, IntKind.signed, IntKind.bits] at this
  omega
end Go.Proofs.Ytokfmfgnjhapiaa
