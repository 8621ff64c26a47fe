/- slices.Reverse at []int. -/
import Derived.Test.YtaigmkpeaenpmaaDoorOwn
import Derived.BigRegion
import Derived.Deep.OwnRows
namespace Go.Proofs.YtaigmkpeaenpmaaDoor
set_option maxRecDepth 100000
open Go.RowKit
set_option linter.unusedVariables false
set_option linter.unusedSimpArgs false

def swapped (o n k : Nat) (x : Nat → Int) (j : Nat) : Int := if (o ≤ j ∧ j < o + k) ∨ (o + n - k ≤ j ∧ j < o + n) then x (2 * o + n - 1 - j) else x j

theorem swapped_zero (o n : Nat) (x : Nat → Int) (j : Nat) : x j = swapped o n 0 x j := by
  unfold swapped; rw [if_neg (by omega)]
theorem swapped_succ (o n k p : Nat) (x : Nat → Int) (h : k + p + 1 = n) (hlt : k < p) (j : Nat) :
    (if j = o + p then swapped o n k x (o + k) else if j = o + k then swapped o n k x (o + p) else swapped o n k x j) = swapped o n (k + 1) x j := by
  by_cases h1 : j = o + p
  · subst h1
    rw [if_pos rfl]
    unfold swapped
    rw [if_neg (by omega), if_pos (by omega)]
    congr 1; omega
  · rw [if_neg h1]
    by_cases h2 : j = o + k
    · subst h2
      rw [if_pos rfl]
      unfold swapped
      rw [if_neg (by omega), if_pos (by omega)]
      congr 1; omega
    · rw [if_neg h2]
      unfold swapped
      by_cases h3 : (o ≤ j ∧ j < o + k) ∨ (o + n - k ≤ j ∧ j < o + n)
      · rw [if_pos h3, if_pos (by omega)]
      · rw [if_neg h3, if_neg (by omega)]
theorem swapped_end (o n k : Nat) (x : Nat → Int) (h : n ≤ 2 * k + 1) (hk : k ≤ n) (j : Nat) :
    swapped o n k x j = if o ≤ j ∧ j < o + n then x (2 * o + n - 1 - j) else x j := by
  unfold swapped
  by_cases h1 : o ≤ j ∧ j < o + n
  · rw [if_pos h1]
    by_cases h2 : (o ≤ j ∧ j < o + k) ∨ (o + n - k ≤ j ∧ j < o + n)
    · rw [if_pos h2]
    · rw [if_neg h2]
      congr 1; omega
  · rw [if_neg h1, if_neg (by omega)]

/-- The row after k exchanges: ints in the piece, whatever stood there elsewhere. -/
def revRow (o n k : Nat) (x : Nat → Int) (y : Nat → Value) (j : Nat) : Value := if o ≤ j ∧ j < o + n then .int .i64 (swapped o n k x j) else y j

set_option maxHeartbeats 400000 in
theorem reverse_any (g N o n c : Nat) (x : Nat → Int) (y : Nat → Value) (w : World) (h : w.rowIs g 3 N (fun j => if o ≤ j ∧ j < o + n then .int .i64 (x j) else y j)) (hin : o + n ≤ N) (hn : n ≤ 1000000) :
    Calls Tryd.prog 40 #[.slice (some ⟨g, o, none⟩) n c] w fun e w' => e = .returned (.tuple #[]) ∧
      w'.rowIs g 3 N (fun j => if o ≤ j ∧ j < o + n then .int .i64 (x (2 * o + n - 1 - j)) else y j) ∧ w.grownBy w' (some g) := by
  refine of_post fun R hR => ?_
  have Hh := Lib.hid h
  clear h
  go_enter Tryd.func40, Tryd.ntmps40
  go_wp2
  go_loopw [2, 3] (fun i j wr => ∃ (k : Nat) (q : Int), i = .int .i64 k ∧ j = .int .i64 q ∧ q + k + 1 = n ∧ Hid (2 * k ≤ n + 1 ∧ k ≤ n) ∧ Hid (wr.rowIs g 3 N (revRow o n k x y)) ∧ Hid (w.grownBy wr (some g))) (fun i _ _ => n - (intOf i).toNat)
  case atStart => exact ⟨0, (n : Int) - 1, rfl, rfl, by omega, Lib.hid (by omega), Lib.hid (Hh.out.congr fun i _ => by unfold revRow; rw [← swapped_zero]), Lib.hid (World.grownBy.refl _ _)⟩
  case round =>
    obtain ⟨k, q, rfl, rfl, hq, HK, HR, HG⟩ := hrel
    by_cases hlt : (k : Int) < q
    · obtain ⟨p, rfl⟩ : ∃ p : Nat, q = p := ⟨q.toNat, by omega⟩
      have hp : k + p + 1 = n := by omega
      have hkp : k < p := by omega
      have c1 := HR.out.cell (i := o + k) (by omega)
      have c2 := HR.out.cell (i := o + p) (by omega)
      rw [revRow, if_pos (by omega)] at c1 c2
      have f1 := HR.out.frozen (o + k)
      have f2 := HR.out.frozen (o + p)
      have HP := Lib.hid hp
      have b1 : k < n := by omega
      have b2 : p < n := by omega
      clear hq hp
      generalize hA : swapped o n k x (o + k) = a at *
      generalize hB : swapped o n k x (o + p) = b at *
      have HA := Lib.hid hA
      have HB := Lib.hid hB
      clear hA hB
      go_wp2
      go_region
      have hset := ((HR.out.set (o + k) (.int .i64 b)).set (o + p) (.int .i64 a)).congr (g := revRow o n (k + 1) x y) fun j _ => by
        have hs := swapped_succ o n k p x HP.out hkp j
        rw [HA.out, HB.out] at hs
        have := HP.out
        unfold revRow
        by_cases hj : o ≤ j ∧ j < o + n
        · rw [if_pos hj, ← hs]
          split
          · rfl
          · split
            · rfl
            · first | rfl | (rw [if_pos hj]; rfl) | simp [hj]
        · rw [if_neg hj, if_neg (by omega), if_neg (by omega), if_neg hj]
      have HS := Lib.hid hset
      have hg : w.grownBy ((wr.setCell ⟨g, o + k, none⟩ (.int .i64 b)).setCell ⟨g, o + p, none⟩ (.int .i64 a)) (some g) := by
        have h0 := HG.out
        refine ⟨h0.os, h0.tape, h0.output, by simpa [World.setCell] using h0.size, fun i hi hne => ?_⟩
        rw [Below.heap_setCell _ _ _ _ (fun e => hne (by rw [e])), Below.heap_setCell _ _ _ _ (fun e => hne (by rw [e]))]
        exact h0.block i hi hne
      have HG' := Lib.hid hg
      clear hset hg
      go_wp2
      go_roundw
      case rel => exact ⟨k + 1, (p : Int) - 1, by go_num, rfl, by have := HP.out; omega, Lib.hid (by have := HP.out; have := HK.out; omega), Lib.hid HS.out, Lib.hid ⟨HG'.out.os, HG'.out.tape, HG'.out.output, HG'.out.size, HG'.out.block⟩⟩
      case measure => simp [intOf]; omega
    · have hle : 2 * k + 1 ≥ n := by omega
      have hfin := HR.out.congr (g := fun j => if o ≤ j ∧ j < o + n then .int .i64 (x (2 * o + n - 1 - j)) else y j) fun j _ => by
        unfold revRow
        by_cases hj : o ≤ j ∧ j < o + n
        · simp only [if_pos hj]
          rw [swapped_end o n k x (by omega) HK.out.2, if_pos hj]
        · simp only [if_neg hj]
      have HF := Lib.hid hfin
      clear hfin hle
      go_wp2
      go_end0
      exact hR.out _ _ ⟨rfl, HF.out, HG.out⟩
end Go.Proofs.YtaigmkpeaenpmaaDoor
