/- value: two numbers compared. -/
import Derived.Test.YtnpaikdaogikcaaGreatDoorG15
import Derived.Deep.RegionHeld3

namespace Go.Proofs.YtnpaikdaogikcaaGreatDoor
set_option maxRecDepth 100000
open Go.RowKit
set_option linter.unusedVariables false
set_option linter.unusedSimpArgs false

def sgn (a b : Int) : Int := if a < b then -1 else if b < a then 1 else 0
theorem nanI (a : Int) (w : World) : Calls Tryz.prog 199 #[.int .i64 a] w fun e w' => e = .returned (.bool false) ∧ w' = w := by
  refine of_post fun R hR => ?_
  go_enter Tryz.func199, Tryz.ntmps199
  go_wp2_with fail
  exact hR.out _ _ ⟨by simp, rfl⟩
theorem cmpI (a b : Int) (w : World) : Calls Tryz.prog 149 #[.int .i64 a, .int .i64 b] w fun e w' => e = .returned (.int .i64 (sgn a b)) ∧ w' = w := by
  refine of_post fun R hR => ?_
  have HN := fun a w => Lib.hid (nanI a w)
  rcases Int.lt_trichotomy a b with h | h | h
  · have HE : Hid (sgn a b = -1) := Lib.hid (by unfold sgn; rw [if_pos h])
    go_enter Tryz.func149, Tryz.ntmps149
    go_wp2_with (go_at_call 199; refine (HN _ _).out.mono ?_; rintro e w ⟨rfl, hw⟩; obtain rfl := hw)
    exact hR.out _ _ ⟨ret_i rfl (by rw [HE.out]), rfl⟩
  · have h1 : ¬ a < b := by omega
    have h2 : ¬ b < a := by omega
    have HE : Hid (sgn a b = 0) := Lib.hid (by unfold sgn; rw [if_neg h1, if_neg h2])
    clear h
    go_enter Tryz.func149, Tryz.ntmps149
    go_wp2_with (go_at_call 199; refine (HN _ _).out.mono ?_; rintro e w ⟨rfl, hw⟩; obtain rfl := hw)
    exact hR.out _ _ ⟨ret_i rfl (by rw [HE.out]), rfl⟩
  · have h1 : ¬ a < b := by omega
    have HE : Hid (sgn a b = 1) := Lib.hid (by unfold sgn; rw [if_neg h1, if_pos h])
    go_enter Tryz.func149, Tryz.ntmps149
    go_wp2_with (go_at_call 199; refine (HN _ _).out.mono ?_; rintro e w ⟨rfl, hw⟩; obtain rfl := hw)
    exact hR.out _ _ ⟨ret_i rfl (by rw [HE.out]), rfl⟩
theorem nanL (a : Int) (w : World) : Calls Tryz.prog 200 #[.int .i64 a] w fun e w' => e = .returned (.bool false) ∧ w' = w := by
  refine of_post fun R hR => ?_
  go_enter Tryz.func200, Tryz.ntmps200
  go_wp2_with fail
  exact hR.out _ _ ⟨by simp, rfl⟩
theorem cmpL (a b : Int) (w : World) : Calls Tryz.prog 151 #[.int .i64 a, .int .i64 b] w fun e w' => e = .returned (.int .i64 (sgn a b)) ∧ w' = w := by
  refine of_post fun R hR => ?_
  have HN := fun a w => Lib.hid (nanL a w)
  rcases Int.lt_trichotomy a b with h | h | h
  · have HE : Hid (sgn a b = -1) := Lib.hid (by unfold sgn; rw [if_pos h])
    go_enter Tryz.func151, Tryz.ntmps151
    go_wp2_with (go_at_call 200; refine (HN _ _).out.mono ?_; rintro e w ⟨rfl, hw⟩; obtain rfl := hw)
    exact hR.out _ _ ⟨ret_i rfl (by rw [HE.out]), rfl⟩
  · have h1 : ¬ a < b := by omega
    have h2 : ¬ b < a := by omega
    have HE : Hid (sgn a b = 0) := Lib.hid (by unfold sgn; rw [if_neg h1, if_neg h2])
    clear h
    go_enter Tryz.func151, Tryz.ntmps151
    go_wp2_with (go_at_call 200; refine (HN _ _).out.mono ?_; rintro e w ⟨rfl, hw⟩; obtain rfl := hw)
    exact hR.out _ _ ⟨ret_i rfl (by rw [HE.out]), rfl⟩
  · have h1 : ¬ a < b := by omega
    have HE : Hid (sgn a b = 1) := Lib.hid (by unfold sgn; rw [if_neg h1, if_pos h])
    go_enter Tryz.func151, Tryz.ntmps151
    go_wp2_with (go_at_call 200; refine (HN _ _).out.mono ?_; rintro e w ⟨rfl, hw⟩; obtain rfl := hw)
    exact hR.out _ _ ⟨ret_i rfl (by rw [HE.out]), rfl⟩
theorem nanS (w : World) : Calls Tryz.prog 140 #[.string ⟨#[]⟩] w fun e w' => e = .returned (.bool false) ∧ w' = w := by
  refine of_post fun R hR => ?_
  go_enter Tryz.func140, Tryz.ntmps140
  go_wp2_with fail
  exact hR.out _ _ ⟨rfl, rfl⟩
theorem cmpS (w : World) : Calls Tryz.prog 152 #[.string ⟨#[]⟩, .string ⟨#[]⟩] w fun e w' => e = .returned (.int .i64 0) ∧ w' = w := by
  refine of_post fun R hR => ?_
  have HN := fun w => Lib.hid (nanS w)
  go_enter Tryz.func152, Tryz.ntmps152
  go_wp2_with (go_at_call 140; refine (HN _).out.mono ?_; rintro e w ⟨rfl, hw⟩; obtain rfl := hw)
  exact hR.out _ _ ⟨rfl, rfl⟩
theorem numB (w : World) : Calls Tryz.prog 150 #[.bool false] w fun e w' => e = .returned (.int .i64 0) ∧ w' = w := by
  refine of_post fun R hR => ?_
  go_enter Tryz.func150, Tryz.ntmps150
  go_wp2_with fail
  exact hR.out _ _ ⟨rfl, rfl⟩
set_option maxHeartbeats 1000000 in
theorem orI (s : Int) (b o c : Nat) (w : World) (hc : ∀ i v, ([0, 0, s, 0] : List Int)[i]? = some v → w.cell? ⟨b, o + i, none⟩ = some (.int .i64 v)) :
    Calls Tryz.prog 148 #[.slice (some ⟨b, o, none⟩) 4 c] w fun e w' => e = .returned (.int .i64 s) ∧ w' = w := by
  refine of_post fun R hR => ?_
  have HC := Lib.hid hc
  clear hc
  go_enter Tryz.func148, Tryz.ntmps148
  go_wp2_with fail
  go_loopw [8] (fun iv wr => ∃ i : Nat, i ≤ 4 ∧ iv = .int .i64 i ∧ wr = w ∧ (i = 3 → s = 0) ∧ (i = 4 → s = 0)) (fun iv _ => 4 - (intOf iv).toNat)
  case atStart => exact ⟨0, by omega, rfl, rfl, by omega, by omega⟩
  case round =>
    obtain ⟨i, hi, rfl, hww, h3, h4⟩ := hrel
    obtain rfl : w = wr := hww.symm
    clear hww
    by_cases hlt : i < 4
    · obtain ⟨v, hv⟩ : ∃ v, ([0, 0, s, 0] : List Int)[i]? = some v := ⟨_, List.getElem?_eq_getElem (by exact hlt)⟩
      have hq := HC.out i v hv
      by_cases hv0 : v = 0
      · subst hv0
        have HV := Lib.hid hv
        have H3 := Lib.hid h3
        clear hv h3 h4
        go_wp2_with fail
        go_roundw
        case rel => exact ⟨i + 1, by omega, by go_num, trivial, fun h => by
          obtain rfl : i = 2 := by omega
          have := HV.out; simpa using this, fun h => by
          obtain rfl : i = 3 := by omega
          exact H3.out rfl⟩
        case measure => simp [intOf]; omega
      · have hne : (v != 0) = true := by simpa using hv0
        have HE : Hid (v = s) := Lib.hid (by
          rcases (by omega : i = 0 ∨ i = 1 ∨ i = 2 ∨ i = 3) with rfl | rfl | rfl | rfl
          · exact absurd (by simpa using hv.symm) hv0
          · exact absurd (by simpa using hv.symm) hv0
          · simpa using hv.symm
          · exact absurd (by simpa using hv.symm) hv0)
        clear hv h3 h4
        go_wp2_with fail
        exact hR.out _ _ ⟨ret_i rfl (by rw [HE.out]), rfl⟩
    · obtain rfl : i = 4 := by omega
      have HE := Lib.hid (h4 rfl)
      clear h3 h4
      go_wp2_with fail
      exact hR.out _ _ ⟨ret_i rfl (by rw [HE.out]), rfl⟩
end Go.Proofs.YtnpaikdaogikcaaGreatDoor

/- value: the order of two numbers, whether they are the same. -/
namespace Go.Proofs.YtnpaikdaogikcaaGreatDoor
set_option maxRecDepth 100000
open Go.RowKit
set_option linter.unusedVariables false
set_option linter.unusedSimpArgs false

/-- A number's cells. -/
abbrev vC (n : Int) (A : Option Addr) (la : Nat) (B : Option Addr) (lb : Nat) : Array Value := #[.int .i64 2, .bool false, .int .i64 n, .string ⟨#[]⟩, .slice A 0 la, .slice B 0 lb]
theorem cmpI_same (a : Int) (w : World) : Calls Tryz.prog 149 #[.int .i64 a, .int .i64 a] w fun e w' => e = .returned (.int .i64 0) ∧ w' = w :=
  (cmpI a a w).mono fun e w' h => by rw [show sgn a a = 0 from by unfold sgn; simp] at h; exact h
set_option maxHeartbeats 4000000 in
theorem orderI (a b : Int) (A : Option Addr) (la : Nat) (B : Option Addr) (lb : Nat) (C : Option Addr) (lc : Nat) (D : Option Addr) (ld : Nat) (w : World) :
    Calls Tryz.prog 124 #[.agg (vC a A la B lb), .agg (vC b C lc D ld)] w fun e w' => e = .returned (.int .i64 (sgn a b)) ∧ Ext w w' := by
  refine of_post fun R hR => ?_
  have hx2 := ext_al (w.alloc (.cells (vC a A la B lb) 32)) (.cells (vC b C lc D ld) 32)
  have HX := Lib.hid ((ext_al w (.cells (vC a A la B lb) 32)).trans' hx2)
  have HAB := Lib.hid ((Blk.new w (vC a A la B lb) 32).on hx2)
  have HBB := Lib.hid (Blk.new (w.alloc (.cells (vC a A la B lb) 32)) (vC b C lc D ld) 32)
  rw [World.size_alloc] at HBB
  have HS4 : Hid (∀ X, Ext ((w.alloc (.cells (vC a A la B lb) 32)).alloc (.cells (vC b C lc D ld) 32)) X → X.cell? ⟨w.heap.size, 0, none⟩ = some (.int .i64 2) ∧ X.cell? ⟨w.heap.size, 1, none⟩ = some (.bool false) ∧ X.cell? ⟨w.heap.size, 2, none⟩ = some (.int .i64 a) ∧ X.cell? ⟨w.heap.size, 3, none⟩ = some (.string ⟨#[]⟩) ∧ X.cell? ⟨w.heap.size + 1, 0, none⟩ = some (.int .i64 2) ∧ X.cell? ⟨w.heap.size + 1, 1, none⟩ = some (.bool false) ∧ X.cell? ⟨w.heap.size + 1, 2, none⟩ = some (.int .i64 b) ∧ X.cell? ⟨w.heap.size + 1, 3, none⟩ = some (.string ⟨#[]⟩)) := Lib.hid fun X hx => by
    have h1 := (HAB.out.on hx).cell
    have h2 := (HBB.out.on hx).cell
    exact ⟨h1 0, h1 1, h1 2, h1 3, h2 0, h2 1, h2 2, h2 3⟩
  clear hx2
  go_enter Tryz.func124, Tryz.ntmps124
  go_upto_region 1 with fail
  generalize (w.alloc (.cells (vC a A la B lb) 32)).alloc (.cells (vC b C lc D ld) 32) = w2 at *
  generalize w.heap.size = eb at *
  have hcd := HS4.out w2.drew ((Ext.refl' w2).drewN' 1)
  have hce := fun o => HS4.out ((w2.alloc o).drew) (((Ext.refl' w2).alloc' o).drewN' 1)
  have HSG : Hid (sgn a b = sgn a b) := Lib.hid rfl
  generalize hsg : sgn a b = s at *
  have HSS := Lib.hid hsg
  have HCL : Hid (∀ w, Calls Tryz.prog 151 #[.int .i64 a, .int .i64 b] w fun e w' => e = .returned (.int .i64 s) ∧ w' = w) := Lib.hid fun w => by rw [← hsg]; exact cmpL a b w
  have HOR := Lib.hid (orI s w2.heap.size 0 4 (w2.alloc (.cells #[.int .i64 0, .int .i64 0, .int .i64 s, .int .i64 0] 3)).drew (fun i v hv => by
    obtain ⟨b, o, e, hc⟩ := cellsAt_new w2 [.int .i64 0, .int .i64 0, .int .i64 s, .int .i64 0] 3 (by simp)
    cases e
    refine hc i _ ?_
    have : ([0, 0, s, 0] : List Int).map I64 = [.int .i64 0, .int .i64 0, .int .i64 s, .int .i64 0] := rfl
    rw [← this, List.getElem?_map, hv]
    rfl))
  clear hsg
  go_region_held3 (fun X => X.cell? ⟨eb, 0, none⟩ = some (.int .i64 2) ∧ X.cell? ⟨eb, 1, none⟩ = some (.bool false) ∧ X.cell? ⟨eb, 2, none⟩ = some (.int .i64 a) ∧ X.cell? ⟨eb, 3, none⟩ = some (.string ⟨#[]⟩) ∧ X.cell? ⟨eb + 1, 0, none⟩ = some (.int .i64 2) ∧ X.cell? ⟨eb + 1, 1, none⟩ = some (.bool false) ∧ X.cell? ⟨eb + 1, 2, none⟩ = some (.int .i64 b) ∧ X.cell? ⟨eb + 1, 3, none⟩ = some (.string ⟨#[]⟩)) (first | exact hcd | exact hce _ | go_keep) ((first
    | (go_at_call 149; refine (cmpI_same _ _).mono ?_; rintro e wX ⟨rfl, hw⟩; obtain rfl := hw)
    | (go_at_call 150; refine (numB _).mono ?_; rintro e wX ⟨rfl, hw⟩; obtain rfl := hw)
    | (go_at_call 151; refine (HCL.out _).mono ?_; rintro e wX ⟨rfl, hw⟩; obtain rfl := hw)
    | (go_at_call 152; refine (cmpS _).mono ?_; rintro e wX ⟨rfl, hw⟩; obtain rfl := hw)
    | (go_at_call 148; refine HOR.out.mono ?_; rintro e wX ⟨rfl, hw⟩; obtain rfl := hw)))
  all_goals
    have HXF := Lib.hid (HX.out.trans' (((Ext.refl' w2).alloc' (.cells #[.int .i64 0, .int .i64 0, .int .i64 s, .int .i64 0] 3)).drewN' 1))
    by_cases hs0 : s = 0
    · subst hs0
      have hA4 : (w2.alloc (.cells #[.int .i64 0, .int .i64 0, .int .i64 0, .int .i64 0] 3)).drew.cell? ⟨eb, 4, none⟩ = some (.slice A 0 la) := (HAB.out.on (((Ext.refl' w2).alloc' _).drewN' 1)).cell 4
      have hB4 : (w2.alloc (.cells #[.int .i64 0, .int .i64 0, .int .i64 0, .int .i64 0] 3)).drew.cell? ⟨eb + 1, 4, none⟩ = some (.slice C 0 lc) := (HBB.out.on (((Ext.refl' w2).alloc' _).drewN' 1)).cell 4
      have HXG : Hid (Ext w (w2.alloc (.cells #[.int .i64 0, .int .i64 0, .int .i64 0, .int .i64 0] 3)).drew) := HXF
      generalize hw3 : (w2.alloc (.cells #[.int .i64 0, .int .i64 0, .int .i64 0, .int .i64 0] 3)).drew = w3 at *
      clear hw3 hcd hce
      go_wp2_with fail
      go_loopw [42] (fun iv wz => iv = .int .i64 0 ∧ wz = w3) (fun _ _ => 0)
      case atStart => exact ⟨rfl, rfl⟩
      case round =>
        obtain ⟨rfl, rfl⟩ := hrel
        go_wp2_with (go_at_call 149; refine (cmpI_same _ _).mono ?_; rintro e wX ⟨rfl, hw⟩; obtain rfl := hw)
        exact hR.out _ _ ⟨rfl, HXG.out⟩
    · have hsn : (s != 0) = true := by simpa using hs0
      clear hcd hce
      go_wp2_with fail
      exact hR.out _ _ ⟨rfl, HXF.out⟩
theorem sgn_zero (a b : Int) : (sgn a b == 0) = decide (a = b) := by
  unfold sgn
  split
  · next h => rw [decide_eq_false (by omega)]; rfl
  · split
    · next h => rw [decide_eq_false (by omega)]; rfl
    · next h1 h2 => rw [decide_eq_true (by omega)]; rfl
theorem sameI (a b : Int) (A : Option Addr) (la : Nat) (B : Option Addr) (lb : Nat) (C : Option Addr) (lc : Nat) (D : Option Addr) (ld : Nat) (w : World) :
    Calls Tryz.prog 88 #[.agg (vC a A la B lb), .agg (vC b C lc D ld)] w fun e w' => e = .returned (.bool (decide (a = b))) ∧ Ext w w' := by
  refine of_post fun R hR => ?_
  have HX := Lib.hid ((ext_al w (.cells (vC a A la B lb) 32)).trans' (ext_al _ (.cells (vC b C lc D ld) 32)))
  have HO := fun w => Lib.hid (orderI a b A la B lb C lc D ld w)
  have HZ := Lib.hid (sgn_zero a b)
  generalize sgn a b = s at *
  go_enter Tryz.func88, Tryz.ntmps88
  go_wp2_with (go_at_call 124; refine (HO _).out.mono ?_; rintro e w3 ⟨rfl, hx⟩; have HX3 := Lib.hid (HX.out.trans' hx); clear hx)
  exact hR.out _ _ ⟨ret_bb rfl (by rw [← HZ.out]), HX3.out⟩
end Go.Proofs.YtnpaikdaogikcaaGreatDoor

/- sorts: what an expression may be: a number, this. -/
namespace Go.Proofs.YtnpaikdaogikcaaGreatDoor
set_option maxRecDepth 100000
open Go.RowKit
set_option linter.unusedVariables false
set_option linter.unusedSimpArgs false

/-- An environment without names. -/
abbrev envS (this : Int) : Array Value := #[.int .i64 this, .slice none 0 0, .slice none 0 0]
theorem ofInt (n : Int) (w : World) : Calls Tryz.prog 136 #[.agg (cellsInt n).toArray] w fun e w' => e = .returned (.int .i64 4) ∧ Ext w w' := by
  refine of_post fun R hR => ?_
  have HX := Lib.hid (ext_al w (.cells (cellsInt n).toArray 32))
  go_enter Tryz.func136, Tryz.ntmps136
  go_wp2_with fail
  exact hR.out _ _ ⟨rfl, HX.out⟩
/-- What an expression may be, of what this may be. -/
def SX (x : E) (this s : Int) : Prop := ∀ (p : Nat → Prop) (w : World) (cs : Array Value), AE1 x p w cs → Calls Tryz.prog 108 #[.agg cs, .agg (envS this)] w fun e w' => e = .returned (.tuple #[.int .i64 s, .int .i64 0]) ∧ Ext w w'
theorem AE1.lit_cells {n : Int} {p : Nat → Prop} {w : World} {cs : Array Value} (h : AE1 (lit (.ofInt n)) p w cs) : ∃ A la B lb C c, cs = #[.string ⟨#[108, 105, 116]⟩, .string ⟨#[]⟩, .int .i64 2, .bool false, .int .i64 n, .string ⟨#[]⟩, .slice A 0 la, .slice B 0 lb, .slice C 0 c] := by
  obtain ⟨vs, C, c, ics, e, hv, _⟩ := (show RdE p w (.mk kLit [] (.ofInt n) []) cs.toList from h)
  simp only [V.ofInt, RdV] at hv
  obtain ⟨A, la, B, lb, is, rfl, _⟩ := hv
  exact ⟨A, la, B, lb, C, c, Array.ext' e⟩
theorem AE1.this_cells {p : Nat → Prop} {w : World} {cs : Array Value} (h : AE1 (.mk kThis [] .none []) p w cs) : ∃ A la B lb C c, cs = #[.string ⟨#[116, 104, 105, 115]⟩, .string ⟨#[]⟩, .int .i64 0, .bool false, .int .i64 0, .string ⟨#[]⟩, .slice A 0 la, .slice B 0 lb, .slice C 0 c] := by
  obtain ⟨vs, C, c, ics, e, hv, _⟩ := (show RdE p w (.mk kThis [] .none []) cs.toList from h)
  simp only [V.none, RdV] at hv
  obtain ⟨A, la, B, lb, is, rfl, _⟩ := hv
  exact ⟨A, la, B, lb, C, c, Array.ext' e⟩
theorem ofLit (n : Int) (A B : Option Addr) (la lb : Nat) (w : World) : Calls Tryz.prog 136 #[.agg #[.int .i64 2, .bool false, .int .i64 n, .string ⟨#[]⟩, .slice A 0 la, .slice B 0 lb]] w fun e w' => e = .returned (.int .i64 4) ∧ Ext w w' := by
  refine of_post fun R hR => ?_
  have HX := Lib.hid (ext_al w (.cells #[.int .i64 2, .bool false, .int .i64 n, .string ⟨#[]⟩, .slice A 0 la, .slice B 0 lb] 32))
  go_enter Tryz.func136, Tryz.ntmps136
  go_wp2_with fail
  exact hR.out _ _ ⟨rfl, HX.out⟩
set_option maxHeartbeats 1000000 in
theorem checkLit (n this : Int) : SX (lit (.ofInt n)) this 4 := by
  intro p w cs h
  refine of_post fun R hR => ?_
  obtain ⟨A, la, B, lb, C, c, rfl⟩ := h.lit_cells
  have HX := Lib.hid ((ext_al w (.cells #[.string ⟨#[108, 105, 116]⟩, .string ⟨#[]⟩, .int .i64 2, .bool false, .int .i64 n, .string ⟨#[]⟩, .slice A 0 la, .slice B 0 lb, .slice C 0 c] 118)).trans' (ext_al _ (.cells (envS this) 173)))
  clear h
  go_enter Tryz.func108, Tryz.ntmps108
  go_wp2_with (go_at_call 136; refine (ofLit n A B la lb _).mono ?_; rintro r w2 ⟨rfl, hx⟩; have HX2 := Lib.hid (HX.out.trans' hx); clear hx)
  exact hR.out _ _ ⟨rfl, HX2.out⟩
set_option maxHeartbeats 1000000 in
theorem checkThis (this : Int) : SX (.mk kThis [] .none []) this this := by
  intro p w cs h
  refine of_post fun R hR => ?_
  obtain ⟨A, la, B, lb, C, c, rfl⟩ := h.this_cells
  have HX := Lib.hid ((ext_al w (.cells #[.string ⟨#[116, 104, 105, 115]⟩, .string ⟨#[]⟩, .int .i64 0, .bool false, .int .i64 0, .string ⟨#[]⟩, .slice A 0 la, .slice B 0 lb, .slice C 0 c] 118)).trans' (ext_al _ (.cells (envS this) 173)))
  clear h
  go_enter Tryz.func108, Tryz.ntmps108
  go_wp2_with fail
  exact hR.out _ _ ⟨rfl, HX.out⟩
end Go.Proofs.YtnpaikdaogikcaaGreatDoor
