/- What Do makes of any mutation and any two short sequences. -/
import Derived.Test.YtaigmkpeaenpmaaDoorDo
namespace Go.Proofs.YtaigmkpeaenpmaaDoor
set_option maxRecDepth 100000
open Go.RowKit
set_option linter.unusedVariables false
set_option linter.unusedSimpArgs false

def doF (m0 m1 m2 m3 : Int) (xs ys : List Int) : Option (List Int) :=
  if m0 = 0 then (if 0 ≤ m1 ∧ m1 < xs.length ∧ 0 ≤ m3 ∧ m3 < 4294967296 then some (xs.set m1.toNat m3) else none)
  else if m0 = 1 then (if 0 ≤ m1 ∧ m1 ≤ xs.length ∧ 0 ≤ m2 ∧ m2 ≤ ys.length then some (xs.take m1.toNat ++ ys.drop m2.toNat) else none)
  else if m0 = 2 then (if 0 ≤ m1 ∧ m1 ≤ xs.length ∧ 0 ≤ m1 ∧ m1 ≤ ys.length then some (xs.take m1.toNat ++ ys.drop m1.toNat) else none)
  else if m0 = 3 then (if 0 ≤ m1 ∧ m1 ≤ m2 ∧ m2 ≤ xs.length ∧ 0 ≤ m3 ∧ m3 ≤ xs.length then some (xs.take m3.toNat ++ ((xs.drop m1.toNat).take (m2.toNat - m1.toNat) ++ xs.drop m3.toNat)) else none)
  else if m0 = 4 then (if 0 ≤ m1 ∧ m1 ≤ m2 ∧ m2 ≤ xs.length then some (xs.take m1.toNat ++ xs.drop m2.toNat) else none)
  else if m0 = 5 then (if 0 ≤ m1 ∧ m1 ≤ m2 ∧ m2 ≤ xs.length then some (turned xs m1.toNat m2.toNat) else none)
  else none
def doCode (m0 : Int) : Int := if 0 ≤ m0 ∧ m0 < 6 then 8 else 9

theorem got_made {w : World} {zs : List Int} {e : Ending} {w' : World} (h : Made w zs e w') : ∃ v, e = .returned v ∧ Got w (some zs) v w' := by
  obtain ⟨⟨g, cp, rfl, ho⟩, hx⟩ := h
  exact ⟨_, rfl, ⟨g, cp, rfl, ho⟩, hx⟩
theorem got_undone {w : World} {e : Ending} {w' : World} (h : Undone w e w') : ∃ v, e = .returned v ∧ Got w none v w' := by
  obtain ⟨rfl, hx⟩ := h
  exact ⟨_, rfl, rfl, hx⟩

theorem idx0 (w : World) : (Instr.index 44 (.agg waysV) (.int .i64 0)).run Tryd.prog w = .ok (.agg #[.string ⟨#[112, 101, 114, 116, 117, 114, 98]⟩, .func (.func 22) #[] #[], .func (.func 23) #[] #[]]) w := by kernel_rfl
theorem idx1 (w : World) : (Instr.index 44 (.agg waysV) (.int .i64 1)).run Tryd.prog w = .ok (.agg #[.string ⟨#[115, 112, 108, 105, 99, 101]⟩, .func (.func 24) #[] #[], .func (.func 25) #[] #[]]) w := by kernel_rfl
theorem idx2 (w : World) : (Instr.index 44 (.agg waysV) (.int .i64 2)).run Tryd.prog w = .ok (.agg #[.string ⟨#[99, 114, 111, 115, 115]⟩, .func (.func 26) #[] #[], .func (.func 27) #[] #[]]) w := by kernel_rfl
theorem idx3 (w : World) : (Instr.index 44 (.agg waysV) (.int .i64 3)).run Tryd.prog w = .ok (.agg #[.string ⟨#[100, 117, 112, 108, 105, 99, 97, 116, 101]⟩, .func (.func 28) #[] #[], .func (.func 29) #[] #[]]) w := by kernel_rfl
theorem idx4 (w : World) : (Instr.index 44 (.agg waysV) (.int .i64 4)).run Tryd.prog w = .ok (.agg #[.string ⟨#[99, 117, 116]⟩, .func (.func 30) #[] #[], .func (.func 25) #[] #[]]) w := by kernel_rfl
theorem idx5 (w : World) : (Instr.index 44 (.agg waysV) (.int .i64 5)).run Tryd.prog w = .ok (.agg #[.string ⟨#[116, 117, 114, 110]⟩, .func (.func 31) #[] #[], .func (.func 25) #[] #[]]) w := by kernel_rfl

theorem do_any (m0 m1 m2 m3 : Int) (A B : Option Addr) (xs ys : List Int) (c d : Nat) (w : World) (hA : CellsAt w A (xs.map I64)) (hB : CellsAt w B (ys.map I64))
    (hn : xs.length ≤ 1000) (hm : ys.length ≤ 1000) (hc : xs.length ≤ c) (hd : ys.length ≤ d) :
    Calls Tryd.prog 9 #[.agg #[.int .i64 m0, .int .i64 m1, .int .i64 m2, .int .i64 m3], .slice A xs.length c, .slice B ys.length d] w (Done w (doF m0 m1 m2 m3 xs ys) (doCode m0)) := by
  by_cases h : 0 ≤ m0 ∧ m0 < 6
  · have hcode : doCode m0 = 8 := if_pos h
    rw [hcode]
    have hcs : m0 = 0 ∨ m0 = 1 ∨ m0 = 2 ∨ m0 = 3 ∨ m0 = 4 ∨ m0 = 5 := by omega
    rcases hcs with rfl | rfl | rfl | rfl | rfl | rfl
    · refine do_run 0 m1 m2 m3 A B _ _ c d w (by omega) (by omega) 22 _ _ _ idx0 (enters_of Tryd.func22 (by kernel_rfl) rfl) fun w1 hx => ?_
      by_cases hk : 0 ≤ m1 ∧ m1 < xs.length ∧ 0 ≤ m3 ∧ m3 < 4294967296
      · simp only [doF, if_pos hk, if_true]
        obtain ⟨i, rfl⟩ := Int.eq_ofNat_of_zero_le hk.1
        exact (perturb_yes 0 m2 m3 i A B xs _ _ c d w1 (hA.ext hx) rfl hn hc (by omega) hk.2.2.1 hk.2.2.2).mono fun e w' h => got_made h
      · simp only [doF, if_neg hk, if_true]
        exact (perturb_no 0 m1 m2 m3 A B _ _ c d w1 hn hk).mono fun e w' h => got_undone h
    · refine do_run 1 m1 m2 m3 A B _ _ c d w (by omega) (by omega) 24 _ _ _ idx1 (enters_of Tryd.func24 (by kernel_rfl) rfl) fun w1 hx => ?_
      by_cases hk : 0 ≤ m1 ∧ m1 ≤ xs.length ∧ 0 ≤ m2 ∧ m2 ≤ ys.length
      · simp only [doF, if_pos hk, if_true, show (1 : Int) ≠ 0 by omega, if_false]
        obtain ⟨i, rfl⟩ := Int.eq_ofNat_of_zero_le hk.1
        obtain ⟨k, rfl⟩ := Int.eq_ofNat_of_zero_le hk.2.2.1
        exact (splice_yes 1 m3 i k A B xs ys _ _ c d w1 (hA.ext hx) (hB.ext hx) rfl rfl hn hm hc hd (by omega) (by omega)).mono fun e w' h => got_made h
      · simp only [doF, if_neg hk, if_true, show (1 : Int) ≠ 0 by omega, if_false]
        exact (splice_no 1 m1 m2 m3 A B _ _ c d w1 hn hm hk).mono fun e w' h => got_undone h
    · refine do_run 2 m1 m2 m3 A B _ _ c d w (by omega) (by omega) 26 _ _ _ idx2 (enters_of Tryd.func26 (by kernel_rfl) rfl) fun w1 hx => ?_
      by_cases hk : 0 ≤ m1 ∧ m1 ≤ xs.length ∧ 0 ≤ m1 ∧ m1 ≤ ys.length
      · simp only [doF, if_pos hk, if_true, show (2 : Int) ≠ 0 by omega, show (2 : Int) ≠ 1 by omega, if_false]
        obtain ⟨i, rfl⟩ := Int.eq_ofNat_of_zero_le hk.1
        refine (cross_any 2 i m2 m3 A B _ _ c d w1 (fun w2 e w' => Made w2 (xs.take i ++ ys.drop i) e w') (fun o => splice_yes 2 m3 i i A B xs ys _ _ c d _ (hA.ext (hx.trans' ((Ext.refl' w1).alloc' o))) (hB.ext (hx.trans' ((Ext.refl' w1).alloc' o))) rfl rfl hn hm hc hd (by omega) (by omega)) (fun w2 e w' h => ?_)).mono fun e w' h => ?_
        · obtain ⟨⟨g, cp, rfl, _⟩, _⟩ := h
          exact ⟨_, rfl⟩
        · obtain ⟨o, h⟩ := h
          exact got_made (h.from ((Ext.refl' w1).alloc' o))
      · simp only [doF, if_neg hk, if_true, show (2 : Int) ≠ 0 by omega, show (2 : Int) ≠ 1 by omega, if_false]
        refine (cross_any 2 m1 m2 m3 A B _ _ c d w1 Undone (fun o => splice_no 2 m1 m1 m3 A B _ _ c d _ hn hm hk) (fun w2 e w' h => ⟨_, h.1⟩)).mono fun e w' h => ?_
        obtain ⟨o, h⟩ := h
        exact got_undone ⟨h.1, ((Ext.refl' w1).alloc' o).trans' h.2⟩
    · refine do_run 3 m1 m2 m3 A B _ _ c d w (by omega) (by omega) 28 _ _ _ idx3 (enters_of Tryd.func28 (by kernel_rfl) rfl) fun w1 hx => ?_
      by_cases hk : 0 ≤ m1 ∧ m1 ≤ m2 ∧ m2 ≤ xs.length ∧ 0 ≤ m3 ∧ m3 ≤ xs.length
      · simp only [doF, if_pos hk, if_true, show (3 : Int) ≠ 0 by omega, show (3 : Int) ≠ 1 by omega, show (3 : Int) ≠ 2 by omega, if_false]
        obtain ⟨i, rfl⟩ := Int.eq_ofNat_of_zero_le hk.1
        obtain ⟨k, rfl⟩ := Int.eq_ofNat_of_zero_le (show 0 ≤ m2 by omega)
        obtain ⟨p, rfl⟩ := Int.eq_ofNat_of_zero_le hk.2.2.2.1
        exact (dup_yes 3 i k p A B xs _ _ c d w1 (hA.ext hx) rfl hn hc (by omega) (by omega) (by omega)).mono fun e w' h => got_made h
      · simp only [doF, if_neg hk, if_true, show (3 : Int) ≠ 0 by omega, show (3 : Int) ≠ 1 by omega, show (3 : Int) ≠ 2 by omega, if_false]
        exact (dup_no 3 m1 m2 m3 A B _ _ c d w1 hn hk).mono fun e w' h => got_undone h
    · refine do_run 4 m1 m2 m3 A B _ _ c d w (by omega) (by omega) 30 _ _ _ idx4 (enters_of Tryd.func30 (by kernel_rfl) rfl) fun w1 hx => ?_
      by_cases hk : 0 ≤ m1 ∧ m1 ≤ m2 ∧ m2 ≤ xs.length
      · simp only [doF, if_pos hk, if_true, show (4 : Int) ≠ 0 by omega, show (4 : Int) ≠ 1 by omega, show (4 : Int) ≠ 2 by omega, show (4 : Int) ≠ 3 by omega, if_false]
        obtain ⟨i, rfl⟩ := Int.eq_ofNat_of_zero_le hk.1
        obtain ⟨k, rfl⟩ := Int.eq_ofNat_of_zero_le (show 0 ≤ m2 by omega)
        exact (cut_yes 4 m3 i k A B xs _ _ c d w1 (hA.ext hx) rfl hn hc (by omega) (by omega)).mono fun e w' h => got_made h
      · simp only [doF, if_neg hk, if_true, show (4 : Int) ≠ 0 by omega, show (4 : Int) ≠ 1 by omega, show (4 : Int) ≠ 2 by omega, show (4 : Int) ≠ 3 by omega, if_false]
        exact (cut_no 4 m1 m2 m3 A B _ _ c d w1 hn hk).mono fun e w' h => got_undone h
    · refine do_run 5 m1 m2 m3 A B _ _ c d w (by omega) (by omega) 31 _ _ _ idx5 (enters_of Tryd.func31 (by kernel_rfl) rfl) fun w1 hx => ?_
      by_cases hk : 0 ≤ m1 ∧ m1 ≤ m2 ∧ m2 ≤ xs.length
      · simp only [doF, if_pos hk, if_true, show (5 : Int) ≠ 0 by omega, show (5 : Int) ≠ 1 by omega, show (5 : Int) ≠ 2 by omega, show (5 : Int) ≠ 3 by omega, show (5 : Int) ≠ 4 by omega, if_false]
        obtain ⟨i, rfl⟩ := Int.eq_ofNat_of_zero_le hk.1
        obtain ⟨k, rfl⟩ := Int.eq_ofNat_of_zero_le (show 0 ≤ m2 by omega)
        exact (turn_yes 5 m3 i k A B xs _ _ c d w1 (hA.ext hx) rfl hn hc (by omega) (by omega)).mono fun e w' h => got_made h
      · simp only [doF, if_neg hk, if_true, show (5 : Int) ≠ 0 by omega, show (5 : Int) ≠ 1 by omega, show (5 : Int) ≠ 2 by omega, show (5 : Int) ≠ 3 by omega, show (5 : Int) ≠ 4 by omega, if_false]
        exact (turn_no 5 m1 m2 m3 A B _ _ c d w1 hn hk).mono fun e w' h => got_undone h
  · have hcode : doCode m0 = 9 := if_neg h
    have hf : doF m0 m1 m2 m3 xs ys = none := by
      unfold doF
      rw [if_neg (by omega), if_neg (by omega), if_neg (by omega), if_neg (by omega), if_neg (by omega), if_neg (by omega)]
    rw [hcode, hf]
    exact do_kind m0 m1 m2 m3 A B _ _ c d w h
end Go.Proofs.YtaigmkpeaenpmaaDoor
