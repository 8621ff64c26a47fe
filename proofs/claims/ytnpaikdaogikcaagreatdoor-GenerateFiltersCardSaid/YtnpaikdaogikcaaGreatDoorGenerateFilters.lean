/- GenerateFilters: of a range that is filtered as many tries are made as numbers don't pass, and one; if none of those that are tried passes it is told: the law returns true, and its arguments read behind the call as they read before; the card ties the listed variables to the text.
   Conditions: none but the row's own (what can be read as data; the listed variables as the program lays them). -/
import Derived.Test.YtnpaikdaogikcaaGreatDoorG37
import Derived.Test.YtnpaikdaogikcaaGreatDoorTie
import Derived.Test.YtnpaikdaogikcaaGreatDoorCards
import Derived.ProofKit
import Derived.OpenShut
import Derived.LaidMore
import Derived.Lay
import Derived.SevenTiedAt
import Derived.Stop.Joined
import Derived.Lib.LaidTab
import Derived.Stop.LaidErr
namespace Go.Proofs.YtnpaikdaogikcaaGreatDoor
set_option maxRecDepth 100000
open Go.ChangeShapes Go.WideShapes Go.ChangeAt Go.RowKit Go.Joins
set_option linter.unusedVariables false
set_option linter.unusedSimpArgs false

theorem cellsByteK : Tryz.prog.cellsOf 5 = 1 := by kernel_rfl

theorem u8_range {n : Int} (h : (Lit.int .u8 n).wf = true) : 0 ≤ n ∧ n ≤ 255 := by
  have := h
  simp [Lit.wf, IntKind.min, IntKind.max, IntKind.signed, IntKind.bits] at this
  omega

theorem read_bytes {H : Type} {enc : TypeId × Value → H} {W : World} {fuel : Nat} {c : Value} {y : DataW H × List MemPlace}
    (h : DataW.trod enc Tryz.prog W 0 (fun _ => true) true fuel 22 [c] = some y) :
    ∃ (A : Option Addr) (ps : List Nat) (cap : Nat), c = .slice A ps.length cap ∧ CellsAt W A (ps.map U8n) ∧ ps.length ≤ cap ∧ cap ≤ maxLen ∧ (∀ p ∈ ps, p ≤ 255) := by
  rcases open_ints Tryz.underlying22 Tryz.underlying5 cellsByteK h with ⟨hcs, hx⟩ | ⟨a, len, cap, zs, hcs, _, hl, hm, hz, hx, hcell, hwz⟩
  · simp only [List.cons.injEq, and_true] at hcs
    exact ⟨none, [], 0, hcs, CellsAt.nil _ _, Nat.le_refl _, Nat.zero_le _, by simp⟩
  · simp only [List.cons.injEq, and_true] at hcs
    simp only [if_true] at hz
    have hlen : (zs.take len).length = len := by simp; omega
    refine ⟨some a, (zs.take len).map Int.toNat, cap, by rw [List.length_map, hlen]; exact hcs, fun hne => ?_, by rw [List.length_map, hlen]; exact hl, hm, fun p hp => ?_⟩
    · have hpos : 0 < len := by
        rcases Nat.eq_zero_or_pos len with h0 | h0
        · subst h0; simp at hne
        · exact h0
      obtain ⟨b, o, sp⟩ := a
      have hspot : sp = none := by simpa [Addr.add] using World.cell?_spot (hcell 0 (by omega))
      subst hspot
      refine ⟨b, o, rfl, fun k u hk => ?_⟩
      rw [List.getElem?_map, List.getElem?_map] at hk
      have hkl : k < len := by
        rcases Nat.lt_or_ge k len with q | q
        · exact q
        · rw [List.getElem?_eq_none (by rw [hlen]; exact q)] at hk; simp at hk
      have h1 := hcell k (by omega)
      rw [add_plain] at h1
      have h2 : (zs.take len)[k]? = some (zs.getD k 0) := by
        rw [List.getElem?_take, if_pos hkl, List.getD_eq_getElem?_getD, List.getElem?_eq_getElem (by omega)]; rfl
      rw [h2] at hk
      simp only [Option.map_some, Option.some.injEq, U8n] at hk
      rw [h1, ← hk]
      have h3 := u8_range (hwz (zs.getD k 0) (by rw [List.getD_eq_getElem?_getD, List.getElem?_eq_getElem (by omega)]; exact List.getElem_mem _))
      rw [Int.toNat_of_nonneg h3.1]
    · obtain ⟨z, hz', rfl⟩ := List.mem_map.1 hp
      have := u8_range (hwz z (List.mem_of_mem_take hz'))
      omega

theorem generateFilters_lifted (os : Os) (started : os.Started) (H : Type) (enc : TypeId × Value → H) :
    ReturnsInHanded {} Tryz.checked os 3 .any (fun w args => (Rows.generateFiltersSpec.pre enc Tryz.prog Tryz.f3 Rows.generateFiltersRow.domain false w args ∧ laidMetH Tryz.prog Rows.generateFiltersRow.laid w) ∧ sizedMet enc Tryz.prog Tryz.f3 (OpenSpec.ofChange Rows.generateFiltersSpec) false w args)
      (Rows.generateFiltersSpec.post enc Tryz.prog Tryz.f3 false true false false) := by
  refine returnsInHanded_of_change_and (C := Tryz.checked) (X := fun w _ => laidMetH Tryz.prog Rows.generateFiltersRow.laid w) (fun _ _ _ hh h => h.of_heap hh) ownK started (by kernel_rfl) Tryz.func3
    (ChangeSpec.witness_shaped (enc := enc) (C := Tryz.checked) (os := os) (X := fun w _ => laidMetH Tryz.prog Rows.generateFiltersRow.laid w) false (World.laidAll Tryz.prog os Rows.generateFiltersRow.laid) #[.slice none 0 0, .int .u8 0] 8 (World.laidAll_os _ _ _)
      (World.shaped_of_ZipB (by kernel_rfl) (by kernel_rfl)) (by kernel_rfl) (by kernel_rfl) (by kernel_rfl)
      (by rw [MakeChecks.laidMetH_plain _ _ _ (by kernel_rfl)]; exact laidMet_laidAll _ (by kernel_rfl) (by kernel_rfl))) ?_
  intro W base args ds gs before hval0 hW hc _ hL _
  have hval : ∀ (j : Nat) t v, Tryz.f3.params[j]? = some t → args[j]? = some v → Value.okWide Tryz.prog W .any base t v := hval0
  have hW' := hW
  obtain ⟨p, q, hA0, hV, rfl, _, _⟩ := hW
  have hA : DataW.TrodAll enc Tryz.prog W 0 (fun _ => true) true Tryz.f3.params.toList args.toList ds p := hA0
  rw [Tryz.params3] at hA hval
  obtain ⟨v0, v1, d0, d1, p0, p1, rfl, rfl, rfl, h0, h1⟩ := trodAll_two hA
  obtain ⟨rfl, rfl⟩ := trodVars_none hV
  have hpost := fun (W' : World) (hb : Ext W W') => law_post (f := Tryz.f3) (s := Rows.generateFiltersSpec) (fresh := true) hW' rfl hb (by kernel_rfl) (by rw [Tryz.params3]; intro t ht; simp at ht; rcases ht with rfl | rfl <;> exact ⟨by kernel_rfl, of_decide_eq_true (by kernel_rfl)⟩) rfl
  obtain ⟨a0, l0, k0, rfl⟩ := okWide_slice Tryz.underlying22 (hval 0 _ v0 rfl rfl)
  obtain ⟨k1, rfl⟩ := okWide_int Tryz.underlying5 (hval 1 _ v1 rfl rfl)
  obtain ⟨fuel0, hf0⟩ := h0
  obtain ⟨A0, ps0, c0, ha0, hxs0, hc0, hcm0, hw0⟩ := read_bytes hf0
  simp only [Value.slice.injEq] at ha0
  obtain ⟨hA0, hl0, hc0'⟩ := ha0
  subst hA0 hl0 hc0'
  obtain ⟨fuel1, hf1⟩ := h1
  obtain ⟨m1, f1, _, w1⟩ := DataW.trod_int Tryz.underlying5 hf1
  simp only [Value.cells, List.cons.injEq, and_true] at f1
  have hx1 := u8_range w1
  obtain ⟨x1, rfl⟩ : ∃ x : Nat, m1 = x := ⟨m1.toNat, by omega⟩
  rw [f1]
  refine (filters_any _ ps0 _ x1 W hxs0 hc0 hcm0 hw0 (by omega)).mono fun e W' ⟨he, hb⟩ => ?_
  subst he
  rw [← f1]
  exact ⟨_, rfl, hpost W' hb⟩

theorem generateFilters_holds : Rows.GenerateFiltersSaid :=
  OpenClaim.holds_of_wide 3 Tryz.f3 rfl rfl rfl rfl rfl rfl rfl ⟨rfl, rfl, rfl, rfl, rfl⟩ rfl rfl rfl rfl rfl (by kernel_rfl) Tryz.func3 (by kernel_rfl)
    (of_decide_eq_true (by kernel_rfl)) (by unfold Func.isWrapper; first | (rw [if_pos (by decide +kernel)]; kernel_rfl) | (rw [if_neg (by decide +kernel)]; exact ⟨rfl, rfl⟩))
    (fun os started H enc _ => generateFilters_lifted os started H enc)
theorem generateFilters_card : Rows.GenerateFiltersCardSaid :=
  Claim7.holds_tied_plain_at .later [] [.data, .data, .data, .sentinel, .sentinel] true (true, "4a8f7fe12e9d88af8f421d268a1cbcf3bf84681bd55ee3ca98b32adf9839d491") true
    generateFilters_holds (fun _ h => by cases h) (by kernel_rfl) (fun _ h => by cases h) generateFilters_row_tie rfl ⟨rfl, rfl⟩ (by kernel_rfl) rfl
    (fun f fn hf hfn => by
      obtain rfl : f = 3 := Option.some.inj ((show Tryz.prog.funcNamed "cheval/chevallaw19.GenerateFilters" = some 3 by kernel_rfl).symm.trans hf) |>.symm
      obtain rfl : fn = Tryz.f3 := (Option.some.inj (Tryz.func3.symm.trans hfn)).symm
      exact ⟨by kernel_rfl, fun j t ht => by
        rw [Tryz.params3] at ht
        have hm : t ∈ [22, 5] := by simpa using Array.mem_of_getElem? ht
        have hall : ([22, 5].all fun u => !Tryz.prog.wantsStandIn u) = true := by kernel_rfl
        exact (show Tryz.prog.wantsStandIn t = false by simpa using List.all_eq_true.1 hall t hm)⟩)
    (by kernel_rfl)
#print axioms generateFilters_card
end Go.Proofs.YtnpaikdaogikcaaGreatDoor
