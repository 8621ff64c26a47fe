/- The document's answer: May; the row in order, each once; which place a sequence takes in it. -/
import Derived.Test.YtokfmfgnjhapiaaToldZeros
namespace Go.Proofs.Ytokfmfgnjhapiaa
open Go.RowKit
set_option linter.unusedVariables false
set_option linter.unusedSimpArgs false

theorem ref_may (A : Option Addr) (xs : List Int) (n c : Nat) (w : World) (hA : IS w A xs) (hx : xs.length = n) (hn : n ≤ maxLen) :
    Calls Try.prog 26 #[.slice A n c] w fun e w' => e = .returned (.bool (mayL xs)) ∧ w' = w := by
  refine of_post fun R hR => ?_
  unfold maxLen at hn
  have HA := Lib.hid hA
  have Hx := Lib.hid hx
  clear hA hx
  go_enter Try.func26, Try.ntmps26
  go_wp2_with fail
  go_loopw [3, 6] (fun _ i wr => ∃ k : Nat, k ≤ n ∧ i = .int .i64 k ∧ wr = w ∧ Hid (negs xs = negs (xs.drop k))) (fun _ i _ => n - (intOf i).toNat)
  case atStart => exact ⟨0, Nat.zero_le _, rfl, rfl, Lib.hid rfl⟩
  case round =>
    obtain ⟨k, hk, rfl, rfl, HL⟩ := hrel
    by_cases hlt : k < n
    · obtain ⟨b, o, rfl, hc⟩ := HA.out (by intro h; have := Hx.out; simp [h] at this; omega)
      have c1 := hc k (by rw [Hx.out]; exact hlt)
      clear hc
      have HS : Hid (negs (xs.drop k) = (decide (xs[k]?.getD 0 < 0) || negs (xs.drop (k + 1)))) := Lib.hid (by
        have h1 : k < xs.length := by rw [Hx.out]; exact hlt
        unfold negs; rw [List.drop_eq_getElem_cons h1, List.any_cons, List.getElem?_eq_getElem h1, Option.getD_some])
      generalize xs[k]?.getD 0 = x at *
      go_wp2_with fail
      · have h : x < 0 := by assumption
        exact hR.out _ _ ⟨ret_bb rfl (by unfold mayL; rw [HL.out, HS.out]; simp [h]), rfl⟩
      · have h : 0 ≤ x := by assumption
        go_roundw
        case rel => exact ⟨k + 1, by omega, by go_num, trivial, Lib.hid (HL.out.trans (HS.out.trans (by rw [decide_eq_false (by omega)]; rfl)))⟩
        case measure => simp [intOf]; omega
    · obtain rfl : k = n := by omega
      have HF : Hid (negs xs = false) := Lib.hid (by rw [HL.out, List.drop_of_length_le (by rw [Hx.out]; exact Nat.le_refl _)]; rfl)
      clear hlt
      go_wp2_with fail
      exact hR.out _ _ ⟨ret_bb rfl (by unfold mayL; rw [HF.out, Hx.out, Bool.eq_iff_iff]; simp; omega), rfl⟩

def putE : List IRow → IRow → List IRow
  | [], e => [e]
  | a :: t, e => if lessL a.xs e.xs = true then a :: putE t e else if a.xs = e.xs then a :: t else e :: a :: t
theorem putE_map (e : IRow) : ∀ rows : List IRow, (putE rows e).map IRow.xs = putL (rows.map IRow.xs) e.xs
  | [] => rfl
  | a :: t => by
    unfold putE
    rw [List.map_cons, putL]
    split
    · rw [List.map_cons, putE_map e t]
    · split
      · rfl
      · rfl
theorem putE_len (e : IRow) : ∀ rows : List IRow, (putE rows e).length ≤ rows.length + 1
  | [] => by simp [putE]
  | a :: t => by
    unfold putE
    split
    · have := putE_len e t; simp; omega
    · split <;> simp
theorem putE_mem {e x : IRow} : ∀ {rows : List IRow}, x ∈ putE rows e → x = e ∨ x ∈ rows
  | [], h => by simpa [putE] using h
  | a :: t, h => by
    unfold putE at h
    split at h
    · rcases List.mem_cons.1 h with h | h
      · simp [h]
      · rcases putE_mem h with h | h <;> simp [h]
    · split at h
      · exact .inr h
      · rcases List.mem_cons.1 h with h | h
        · exact .inl h
        · exact .inr h

/-- A row of sequences, as a value. -/
def Out (w : World) (v : Value) (rows : List IRow) : Prop :=
  ∃ A c, v = .slice A rows.length c ∧ rows.length ≤ c ∧ c ≤ maxLen ∧ CellsAt w A (rows.map IRow.val) ∧ ∀ e ∈ rows, Fresh 0 w e
theorem Out.on {w w' : World} {v : Value} {rows : List IRow} (h : Out w v rows) (hx : Ext w w') : Out w' v rows :=
  let ⟨A, c, h1, h2, h3, h4, h5⟩ := h
  ⟨A, c, h1, h2, h3, CellsAt.ext h4 hx, fun e he => (h5 e he).on hx⟩
theorem Out.nil (w : World) : Out w (.slice none 0 0) [] := ⟨none, 0, rfl, Nat.le_refl _, Nat.zero_le _, CellsAt.nil _ _, fun e he => absurd he (by simp)⟩
end Go.Proofs.Ytokfmfgnjhapiaa
