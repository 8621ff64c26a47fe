/- Arguments that are slices of bytes, opened. -/
import Derived.Test.YtokfmfgnjhapiaaLawInts
import Derived.Test.YtokfmfgnjhapiaaNearRowsLaw
namespace Go.Proofs.Ytokfmfgnjhapiaa
open Go.ChangeShapes Go.WideShapes Go.ChangeAt Go.RowKit Go.Joins
set_option linter.unusedVariables false
set_option linter.unusedSimpArgs false

theorem cellsByteK : Try.prog.cellsOf 5 = 1 := by kernel_rfl

theorem u8_range {n : Int} (h : (Lit.int .u8 n).wf = true) : 0 ≤ n ∧ n ≤ 255 := by
  have := h
  simp [Lit.wf, IntKind.min, IntKind.max, IntKind.signed, IntKind.bits] at this
  omega

theorem read_bytes {H : Type} {enc : TypeId × Value → H} {W : World} {fuel : Nat} {c : Value} {y : DataW H × List MemPlace}
    (h : DataW.trod enc Try.prog W 0 (fun _ => true) true fuel 52 [c] = some y) :
    ∃ (A : Option Addr) (ps : List Nat) (cap : Nat), c = .slice A ps.length cap ∧ CellsAt W A (ps.map U8) ∧ ps.length ≤ cap ∧ cap ≤ maxLen ∧ (∀ p ∈ ps, p ≤ 255) := by
  rcases open_ints Try.underlying52 Try.underlying5 cellsByteK h with ⟨hcs, hx⟩ | ⟨a, len, cap, zs, hcs, _, hl, hm, hz, hx, hcell, hwz⟩
  · simp only [List.cons.injEq, and_true] at hcs
    exact ⟨none, [], 0, hcs, CellsAt.nil _ _, Nat.le_refl _, Nat.zero_le _, by simp⟩
  · simp only [List.cons.injEq, and_true] at hcs
    simp only [if_true] at hz
    have hlen : (zs.take len).length = len := by simp; omega
    refine ⟨some a, (zs.take len).map Int.toNat, cap, by rw [List.length_map, hlen]; exact hcs, fun hne => ?_, by rw [List.length_map, hlen]; exact hl, hm, fun p hp => ?_⟩
    · have hpos : 0 < len := by
        rcases Nat.eq_zero_or_pos len with h0 | h0
        · subst h0; simp at hne
        · exact h0
      obtain ⟨b, o, sp⟩ := a
      have hspot : sp = none := by simpa [Addr.add] using World.cell?_spot (hcell 0 (by omega))
      subst hspot
      refine ⟨b, o, rfl, fun k u hk => ?_⟩
      rw [List.getElem?_map, List.getElem?_map] at hk
      have hkl : k < len := by
        rcases Nat.lt_or_ge k len with q | q
        · exact q
        · rw [List.getElem?_eq_none (by rw [hlen]; exact q)] at hk; simp at hk
      have h1 := hcell k (by omega)
      rw [add_plain] at h1
      have h2 : (zs.take len)[k]? = some (zs.getD k 0) := by
        rw [List.getElem?_take, if_pos hkl, List.getD_eq_getElem?_getD, List.getElem?_eq_getElem (by omega)]; rfl
      rw [h2] at hk
      simp only [Option.map_some, Option.some.injEq, U8] at hk
      rw [h1, ← hk]
      have h3 := u8_range (hwz (zs.getD k 0) (by rw [List.getD_eq_getElem?_getD, List.getElem?_eq_getElem (by omega)]; exact List.getElem_mem _))
      rw [Int.toNat_of_nonneg h3.1]
    · obtain ⟨z, hz', rfl⟩ := List.mem_map.1 hp
      have := u8_range (hwz z (List.mem_of_mem_take hz'))
      omega
end Go.Proofs.Ytokfmfgnjhapiaa
