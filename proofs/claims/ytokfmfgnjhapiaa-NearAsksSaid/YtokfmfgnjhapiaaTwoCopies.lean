/- Two copies in one statement: append([]int{}, x...), append([]int{}, y...): whatever order is picked. -/
import Derived.Test.YtokfmfgnjhapiaaAwake
import Derived.Test.YtokfmfgnjhapiaaRegion
namespace Go.Proofs.Ytokfmfgnjhapiaa
open Go.RowKit
set_option linter.unusedVariables false
set_option linter.unusedSimpArgs false

/-- A copy of the call's own, its address not nil. -/
def Copy (base : Nat) (xs : List Int) (v : Value) (w : World) : Prop :=
  ∃ g cp, v = .slice (some ⟨g, 0, none⟩) xs.length cp ∧ w.ownsRow base 3 1 v xs.length (xs.map I64)

theorem Copy.ext {base : Nat} {xs : List Int} {v : Value} {w w' : World} (h : Copy base xs v w) (hx : Ext w w') : Copy base xs v w' :=
  let ⟨g, cp, e, ho⟩ := h
  ⟨g, cp, e, own_ext ho hx⟩

/-- append onto an empty slice without spare room: all that was there is as it was. -/
theorem run_append_empty (base : Nat) (ty : TypeId) (g0 : Nat) (w : World) (A : Option Addr) (xs : List Int) (c : Nat) (h0 : w.ownsRow base 3 1 (.slice (some ⟨g0, 0, none⟩) 0 0) 0 []) (hA : CellsAt w A (xs.map I64)) (hn : xs.length ≤ 1000000) (hb : base ≤ w.heap.size) :
    ∃ v' w', (Builtin.append_ #[24, 24] ty #[.slice (some ⟨g0, 0, none⟩) 0 0, .slice A xs.length c]).run Try.prog w = .ok v' w' ∧ Copy base xs v' w' ∧ Ext w w' := by
  obtain ⟨i0, hi, hz0, hz1, hz2⟩ := info_parts infoInt
  by_cases hx : xs = []
  · subst hx
    refine ⟨_, w, run_append_of_none (P := Try.prog) w base 24 ty 3 i0 1 Try.underlying24 hi _ 0 [] h0 A c, ⟨g0, 0, rfl, h0⟩, Ext.refl' w⟩
  · obtain ⟨b, o, rfl, hc⟩ := hA (by simpa using hx)
    have hl : 0 < xs.length := List.length_pos_iff.2 hx
    have hcells : ∀ j v, (xs.map I64)[j]? = some v → w.cell? ((⟨b, o, none⟩ : Addr).add j) = some v := fun j v hj => by rw [addr_add]; exact hc j v hj
    have hr := run_append_grow (P := Try.prog) w 24 ty 3 i0 (.int .i64 0) Try.underlying24 hi hz0 ⟨g0, 0, none⟩ 0 0 [] (by simp) (by simp) ⟨b, o, none⟩ xs.length c (xs.map I64) (by rw [hz1]; simp) hcells (by omega) (by omega) (growslice_fits (by omega) (by rw [hz2]; omega))
    simp only [Nat.zero_add] at hr
    have hge := grownCap_ge w xs.length 0 3
    have hcm := grownCap_le_maxLen w xs.length 0 3 (by unfold maxLen; omega)
    refine ⟨_, _, hr, ⟨w.heap.size, _, rfl, by simp, .inr ⟨w.heap.size, _, _, rfl, hb, heap_alloc_new w.drew _, hge, hcm, ?_, ?_⟩⟩, ((Ext.refl' w).drewN' 1).alloc' _⟩
    · have h1 : (Value.int .i64 0).cells.size = 1 := rfl
      simp [size_zeroCells, h1]
      omega
    · simp

theorem own_le {w : World} {base : Nat} {e : TypeId} {size n cp : Nat} {g : Nat} {cs : List Value} (h : w.ownsRow base e size (.slice (some ⟨g, 0, none⟩) n cp) n cs) : n ≤ cp := by
  rcases h.2 with ⟨h1, _⟩ | ⟨g', cap, cur, hv, _, _, hnc, _⟩
  · simp at h1
  · injection hv with h1 h2 h3
    omega
theorem ev_tmp (a : Act) (t : Nat) : a.eval (.tmp t) = a.tmps.getD t undef := rfl
theorem ev_frame {a a0 : Act} {t : Nat} (h : a.tmps[t]? = a0.tmps[t]?) : a.tmps.getD t undef = a0.tmps.getD t undef := by
  simp only [Array.getD_eq_getD_getElem?, h]

theorem wanted_none {o : Oper} {y : Nat → Option Bool} (h : o.guard = none) : Region.wanted o y = true := by simp [Region.wanted, h]
theorem wp_of_run {P : Program} {o : Oper} {a : Act} {w w' : World} {v : Value} {K : Act → World → Prop} {Q : Exit → Act → World → Prop}
    (h : (execOp a.eval o).run P w = .ok (.value v) w') (hK : K (a.put o.dst v) w') : o.wp P a w K Q := by
  unfold Oper.wp; rw [h]; exact hK
end Go.Proofs.Ytokfmfgnjhapiaa
