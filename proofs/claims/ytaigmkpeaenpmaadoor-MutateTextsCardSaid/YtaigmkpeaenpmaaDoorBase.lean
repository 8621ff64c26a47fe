/- The words that all walks of this seat use: slices that read as lists, what stays as it was. -/
import Derived.Test.YtaigmkpeaenpmaaDoorRows
import Derived.WalkKit
import Derived.WalkSpells
import Derived.WalkLawsBesides
import Derived.Deep.QuietTactic
import Derived.BigQuiet
import Derived.Lib.Hide
import Derived.Deep.AppendLies
import Derived.Maps.AppendAt
import Derived.RegionTactic
namespace Go.Proofs.YtaigmkpeaenpmaaDoor
set_option maxRecDepth 100000
set_option linter.unusedSimpArgs false
set_option linter.unusedVariables false
open Go.RowKit

/-- The post stays a letter while the walk runs. -/
theorem of_post {P : Program} {f : FuncId} {args : Array Value} {w : World} {R0 : Ending → World → Prop}
    (h : ∀ R : Ending → World → Prop, Hid (∀ e w', R0 e w' → R e w') → Calls P f args w R) : Calls P f args w R0 := h _ (Lib.hid fun _ _ h => h)

theorem ret_b {v : Value} {p : Prop} [Decidable p] {b : Bool} (hv : v = .bool b) (h : b = true ↔ p) : Ending.returned v = .returned (.bool (decide p)) := by
  subst hv; congr 2; rw [Bool.eq_iff_iff]; simp [h]
theorem ret_bb {v : Value} {p b : Bool} (hv : v = .bool b) (h : b = p) : Ending.returned v = .returned (.bool p) := by
  subst hv; rw [h]
theorem ret_i {v : Value} {k : IntKind} {a b : Int} (hv : v = .int k a) (h : a = b) : Ending.returned v = .returned (.int k b) := by
  subst hv; rw [h]

/-- What was there is as it was. -/
abbrev Ext (w w' : World) : Prop := Below w.heap.size w w'
theorem Ext.trans' {a b c : World} (h : Ext a b) (k : Ext b c) : Ext a c := Below.trans h (k.mono h.size)
theorem Ext.refl' (w : World) : Ext w w := Below.refl _ _
theorem Ext.drewN' {a w : World} (h : Ext a w) (n : Nat) : Ext a (w.drewN n) := ⟨h.os, h.tape, h.output, h.size, h.block⟩
theorem Ext.alloc' {a w : World} (h : Ext a w) (o : Obj) : Ext a (w.alloc o) := Below.alloc h h.size o
theorem lt_of_cell {w : World} {p : Addr} {v : Value} (h : w.cell? p = some v) : p.block < w.heap.size := by
  unfold World.cell? at h
  rcases Nat.lt_or_ge p.block w.heap.size with hlt | hge
  · exact hlt
  · rw [Array.getElem?_eq_none hge] at h; simp at h
theorem Ext.cell' {w w' : World} (hx : Ext w w') {p : Addr} {v : Value} (h : w.cell? p = some v) : w'.cell? p = some v := (hx.cell (lt_of_cell h)).trans h

end Go.Proofs.YtaigmkpeaenpmaaDoor
