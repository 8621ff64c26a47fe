/- What a mutation makes of two sequences, or what is wrong. -/
import Derived.Test.YtaigmkpeaenpmaaDoorMut3
import Derived.Laws.EntriesVeiled
import Derived.Deep.RegionHeld3
import Derived.Shelf.Abstract
namespace Go.Proofs.YtaigmkpeaenpmaaDoor
set_option maxRecDepth 100000
open Go.RowKit
set_option linter.unusedVariables false
set_option linter.unusedSimpArgs false

/-- The table of kinds, as it lies in memory. -/
def waysV : Array Value := #[.string ⟨#[112, 101, 114, 116, 117, 114, 98]⟩, .func (.func 22) #[] #[], .func (.func 23) #[] #[],
  .string ⟨#[115, 112, 108, 105, 99, 101]⟩, .func (.func 24) #[] #[], .func (.func 25) #[] #[],
  .string ⟨#[99, 114, 111, 115, 115]⟩, .func (.func 26) #[] #[], .func (.func 27) #[] #[],
  .string ⟨#[100, 117, 112, 108, 105, 99, 97, 116, 101]⟩, .func (.func 28) #[] #[], .func (.func 29) #[] #[],
  .string ⟨#[99, 117, 116]⟩, .func (.func 30) #[] #[], .func (.func 25) #[] #[],
  .string ⟨#[116, 117, 114, 110]⟩, .func (.func 31) #[] #[], .func (.func 25) #[] #[]]

set_option maxHeartbeats 1000000 in
theorem ways_any (w : World) :
    Calls Tryd.prog 11 #[] w fun e w' => e = .returned (.agg waysV) ∧ Ext w w' := by
  refine of_post fun R hR => ?_
  go_enter Tryd.func11, Tryd.ntmps11
  go_wp2_with (refine wpList_store_new w rfl 44 _ _ rfl rfl _ waysV _ rfl rfl (by kernel_rfl) rfl (by decide) ?_)
  exact bodyPost_ret (v := .agg waysV) (results_cell_row rfl _ _ w.heap.size 44 waysV (0, 0) _ rfl (heap_alloc_new w _) Tryd.underlying44 rfl (by kernel_rfl)) rfl (hR.out _ _ ⟨rfl, (Ext.refl' w).alloc' _⟩)

/-- What Do hands back: numbers, or nil and an error. -/
def Done (w : World) (r : Option (List Int)) (code : Int) (e : Ending) (w' : World) : Prop :=
  match r with
  | none => e = .returned (.tuple #[.slice none 0 0, .int .i64 code]) ∧ Ext w w'
  | some zs => (∃ g cp, e = .returned (.tuple #[.slice (some ⟨g, 0, none⟩) zs.length cp, .int .i64 0]) ∧ w'.ownsRow w.heap.size 3 1 (.slice (some ⟨g, 0, none⟩) zs.length cp) zs.length (zs.map I64)) ∧ Ext w w'

theorem do_kind (m0 m1 m2 m3 : Int) (A B : Option Addr) (n m c d : Nat) (w : World) (h : ¬ (0 ≤ m0 ∧ m0 < 6)) :
    Calls Tryd.prog 9 #[.agg #[.int .i64 m0, .int .i64 m1, .int .i64 m2, .int .i64 m3], .slice A n c, .slice B m d] w (Done w none 9) := by
  refine of_post fun R hR => ?_
  have hc : m0 < 0 ∨ (0 ≤ m0 ∧ 6 ≤ m0) := by omega
  clear h
  rcases hc with h1 | ⟨h1, h2⟩
  all_goals
    go_enter Tryd.func9, Tryd.ntmps9
    go_wp2
    exact hR.out _ _ ⟨rfl, (Ext.refl' w).alloc' _⟩

/-- What the function of a kind hands back. -/
def Got (w : World) (r : Option (List Int)) (v : Value) (w' : World) : Prop :=
  match r with
  | none => v = .slice none 0 0 ∧ Ext w w'
  | some zs => (∃ g cp, v = .slice (some ⟨g, 0, none⟩) zs.length cp ∧ w'.ownsRow w.heap.size 3 1 (.slice (some ⟨g, 0, none⟩) zs.length cp) zs.length (zs.map I64)) ∧ Ext w w'

set_option maxHeartbeats 1000000 in
theorem do_run (m0 m1 m2 m3 : Int) (A B : Option Addr) (n m c d : Nat) (w : World) (h1 : 0 ≤ m0) (h2 : m0 < 6) (f : Nat) (s : ByteArray) (u : Value) (r : Option (List Int))
    (hidx : ∀ w : World, (Instr.index 44 (.agg waysV) (.int .i64 m0)).run Tryd.prog w = .ok (.agg #[.string s, .func (.func f) #[] #[], u]) w)
    (hent : Enters Tryd.prog f)
    (hf : ∀ w1, Ext w w1 → Calls Tryd.prog f #[.agg #[.int .i64 m0, .int .i64 m1, .int .i64 m2, .int .i64 m3], .slice A n c, .slice B m d] w1 fun e w' => ∃ v, e = .returned v ∧ Got w1 r v w') :
    Calls Tryd.prog 9 #[.agg #[.int .i64 m0, .int .i64 m1, .int .i64 m2, .int .i64 m3], .slice A n c, .slice B m d] w (Done w r 8) := by
  refine of_post fun R hR => ?_
  have HF := fun w1 hx => Lib.hid (hf w1 hx)
  clear hf
  unfold Enters at hent
  have hfld : ∀ w : World, (Instr.field 43 (.agg #[.string s, .func (.func f) #[] #[], u]) 1).run Tryd.prog w = .ok (.func (.func f) #[] #[]) w := fun _ => by kernel_rfl
  go_enter Tryd.func9, Tryd.ntmps9
  go_wp2_with fail
  go_region_held3 (fun W => W.cell? ⟨w.heap.size, 0, none⟩ = some (.int .i64 m0) ∧ W.cell? ⟨w.heap.size, 1, none⟩ = some (.int .i64 m1) ∧ W.cell? ⟨w.heap.size, 2, none⟩ = some (.int .i64 m2) ∧ W.cell? ⟨w.heap.size, 3, none⟩ = some (.int .i64 m3)) (go_keep)
    (first
      | (go_at_call 11; refine (ways_any _).mono ?_; rintro e w1 ⟨rfl, hx⟩; have q0 := hx.cell' (p := ⟨w.heap.size, 0, none⟩) (v := .int .i64 m0) (by go_keep); have q1 := hx.cell' (p := ⟨w.heap.size, 1, none⟩) (v := .int .i64 m1) (by go_keep); have q2 := hx.cell' (p := ⟨w.heap.size, 2, none⟩) (v := .int .i64 m2) (by go_keep); have q3 := hx.cell' (p := ⟨w.heap.size, 3, none⟩) (v := .int .i64 m3) (by go_keep); have HX := Lib.hid ((((Ext.refl' w).alloc' _).drewN' 1).trans' hx); clear hx)
      | (refine (HF _ HX.out).out.mono ?_; rintro e w2 ⟨v, rfl, hp⟩; have HP := Lib.hid hp; have q4 := (show Ext w1 w2 by (have hp' := HP.out; cases r <;> exact hp'.2)).cell' q0; have q5 := (show Ext w1 w2 by (have hp' := HP.out; cases r <;> exact hp'.2)).cell' q1; have q6 := (show Ext w1 w2 by (have hp' := HP.out; cases r <;> exact hp'.2)).cell' q2; have q7 := (show Ext w1 w2 by (have hp' := HP.out; cases r <;> exact hp'.2)).cell' q3; clear hp))
  have heq := fun (W : World) (a : Option Addr) (n c : Nat) => Lib.run_eql_slice_nil (P := Tryd.prog) W 36 3 a n c 0 0 Tryd.underlying36
  clear q0 q1 q2 q3 q4 q5 q6 q7
  cases r with
  | none =>
    obtain ⟨rfl, hx2⟩ := HP.out
    have HX2 := Lib.hid hx2
    clear hx2
    go_wp2
    exact hR.out _ _ ⟨rfl, HX.out.trans' HX2.out⟩
  | some zs =>
    obtain ⟨⟨g, cp, rfl, ho⟩, hx2⟩ := HP.out
    have HX2 := Lib.hid hx2
    have HO := Lib.hid ho
    clear hx2 ho
    go_wp2
    exact hR.out _ _ ⟨⟨g, cp, rfl, own_mono HO.out HX.out.size⟩, HX.out.trans' HX2.out⟩
end Go.Proofs.YtaigmkpeaenpmaaDoor
