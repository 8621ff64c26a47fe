/- The kind of a word. -/
import Derived.Test.YtaigmkpeaenpmaaDoorMutPiece
import Derived.Shelf.RegionOpen
namespace Go.Proofs.YtaigmkpeaenpmaaDoor
set_option maxRecDepth 100000
open Go.RowKit
set_option linter.unusedVariables false
set_option linter.unusedSimpArgs false

def doK : Nat → FuncId
  | 0 => 22
  | 1 => 24
  | 2 => 26
  | 3 => 28
  | 4 => 30
  | _ => 31
def useK : Nat → FuncId
  | 0 => 23
  | 2 => 27
  | 3 => 29
  | _ => 25
theorem useK_uses (k : Nat) (hk : k < 6) : Uses (useK k) (offsK k) ∧ Enters Tryd.prog (useK k) := by
  rcases (by omega : k = 0 ∨ k = 1 ∨ k = 2 ∨ k = 3 ∨ k = 4 ∨ k = 5) with h | h | h | h | h | h <;> subst h
  · exact ⟨use_place, enters_of Tryd.func23 (by kernel_rfl) rfl⟩
  · exact ⟨use_span, enters_of Tryd.func25 (by kernel_rfl) rfl⟩
  · exact ⟨use_one, enters_of Tryd.func27 (by kernel_rfl) rfl⟩
  · exact ⟨use_all, enters_of Tryd.func29 (by kernel_rfl) rfl⟩
  · exact ⟨use_span, enters_of Tryd.func25 (by kernel_rfl) rfl⟩
  · exact ⟨use_span, enters_of Tryd.func25 (by kernel_rfl) rfl⟩
theorem ways_index (k : Nat) (hk : k < 6) (w : World) : (Instr.index 44 (.agg waysV) (.int .i64 k)).run Tryd.prog w = .ok (.agg #[.string ⟨(wordK k).toArray⟩, .func (.func (doK k)) #[] #[], .func (.func (useK k)) #[] #[]]) w := by
  rcases (by omega : k = 0 ∨ k = 1 ∨ k = 2 ∨ k = 3 ∨ k = 4 ∨ k = 5) with h | h | h | h | h | h <;> subst h <;> kernel_rfl

/-- The table lies in block g. -/
def Tab (w : World) (g : Nat) : Prop := ∀ k, k < 6 → w.cell? ⟨g, k * 3, none⟩ = some (.string ⟨(wordK k).toArray⟩) ∧ w.cell? ⟨g, k * 3 + 1, none⟩ = some (.func (.func (doK k)) #[] #[]) ∧ w.cell? ⟨g, k * 3 + 2, none⟩ = some (.func (.func (useK k)) #[] #[])
theorem Tab.on {w w' : World} {g : Nat} (h : Tab w g) (hx : Ext w w') : Tab w' g := fun k hk => ⟨hx.cell' (h k hk).1, hx.cell' (h k hk).2.1, hx.cell' (h k hk).2.2⟩
theorem tab_new (w : World) (t : TypeId) : Tab (w.alloc (.cells waysV t)) w.heap.size := fun k hk => by
  have h := heap_alloc_new w (.cells waysV t)
  rcases (by omega : k = 0 ∨ k = 1 ∨ k = 2 ∨ k = 3 ∨ k = 4 ∨ k = 5) with e | e | e | e | e | e <;> subst e <;>
    exact ⟨(cell_of_row _ _ _ _ _ _ h).trans rfl, (cell_of_row _ _ _ _ _ _ h).trans rfl, (cell_of_row _ _ _ _ _ _ h).trans rfl⟩

theorem read1 (a b : ByteArray) (f1 f2 : FuncId) (pw : Nat) (w : World) (hw : w.cell? ⟨pw, 0, none⟩ = some (.string b)) :
    Calls Tryd.prog 15 #[.agg #[.string a, .func (.func f1) #[] #[], .func (.func f2) #[] #[]], .pointer (some ⟨pw, 0, none⟩)] w fun e w' => e = .returned (.bool (a.toList == b.toList)) ∧ Ext w w' := by
  refine of_post fun R hR => ?_
  have hal := fun o => ((Ext.refl' w).alloc' o).cell' hw
  go_enter Tryd.func15, Tryd.ntmps15
  go_wp2_with fail
  exact hR.out _ _ ⟨rfl, (Ext.refl' w).alloc' _⟩

theorem word_ne {i k : Nat} (hi : i < 6) (hk : k < 6) (h : i ≠ k) : ((⟨(wordK i).toArray⟩ : ByteArray).toList == (⟨(wordK k).toArray⟩ : ByteArray).toList) = false := by
  rw [toList_data, toList_data]
  have : wordK i ≠ wordK k := by
    rcases (by omega : i = 0 ∨ i = 1 ∨ i = 2 ∨ i = 3 ∨ i = 4 ∨ i = 5) with e | e | e | e | e | e <;> subst e <;>
      (rcases (by omega : k = 0 ∨ k = 1 ∨ k = 2 ∨ k = 3 ∨ k = 4 ∨ k = 5) with e | e | e | e | e | e <;> subst e <;> first | exact absurd rfl h | decide)
  simpa using this

set_option maxHeartbeats 1000000 in
theorem find_any (g pw k : Nat) (w : World) (hk : k < 6) (ht : Tab w g) (hw : w.cell? ⟨pw, 0, none⟩ = some (.string ⟨(wordK k).toArray⟩)) :
    Calls Tryd.prog 14 #[.slice (some ⟨g, 0, none⟩) 6 6, .func (.func 15) #[] #[.pointer (some ⟨pw, 0, none⟩)]] w fun e w' => e = .returned (.int .i64 k) ∧ Ext w w' := by
  refine of_post fun R hR => ?_
  have HT := Lib.hid ht
  have HW := Lib.hid hw
  have hk6 : (k : Int) < 6 := by omega
  clear ht hw
  go_enter Tryd.func14, Tryd.ntmps14
  go_wp2_with fail
  go_loopw [5, 8] (fun _ iv wr => ∃ i : Nat, iv = .int .i64 i ∧ i ≤ k ∧ Hid (Ext w wr)) (fun _ iv _ => 6 - (intOf iv).toNat)
  case atStart => exact ⟨0, rfl, Nat.zero_le _, Lib.hid (Ext.refl' _)⟩
  case round =>
    obtain ⟨i, rfl, hi, HX⟩ := hrel
    obtain ⟨c0, c1, c2⟩ := (HT.out.on HX.out) i (by omega)
    have HR := Lib.hid (read1 ⟨(wordK i).toArray⟩ ⟨(wordK k).toArray⟩ (doK i) (useK i) pw wr (HX.out.cell' HW.out))
    have hi6 : (i : Int) < 6 := by omega
    have HNE : Hid (i ≠ k → ((⟨(wordK i).toArray⟩ : ByteArray).toList == (⟨(wordK k).toArray⟩ : ByteArray).toList) = false) := Lib.hid fun h => word_ne (by omega) hk h
    have HEQ : Hid (i = k → ((⟨(wordK i).toArray⟩ : ByteArray).toList == (⟨(wordK k).toArray⟩ : ByteArray).toList) = true) := Lib.hid fun h => by subst h; simp
    generalize (⟨(wordK i).toArray⟩ : ByteArray) = a at *
    generalize doK i = f1 at *
    generalize useK i = f2 at *
    go_wp2_with fail
    refine HR.out.mono ?_
    rintro e w2 ⟨rfl, hx⟩
    have HX2 := Lib.hid (HX.out.trans' hx)
    clear hx
    by_cases he : i = k
    · rw [HEQ.out he]
      subst he
      go_wp2_with fail
      exact hR.out _ _ ⟨rfl, HX2.out⟩
    · rw [HNE.out he]
      clear HR HNE HEQ
      go_wp2_with fail
      go_roundw
      case rel => exact ⟨i + 1, by go_num, by omega, HX2⟩
      case measure => simp [intOf]; omega
end Go.Proofs.YtaigmkpeaenpmaaDoor
