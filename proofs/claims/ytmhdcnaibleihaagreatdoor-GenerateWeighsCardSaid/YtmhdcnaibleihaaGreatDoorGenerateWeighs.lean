/- GenerateWeighs: by a script of each number below the weights' sum each part comes as often as its weight says: the law returns true, and its argument reads behind the call as it read before; the card ties the listed variables to the text.
   Conditions: none but the row's own (what can be read as data; the listed variables as the program lays them). -/
import Derived.Test.YtmhdcnaibleihaaGreatDoorG25
import Derived.Test.YtmhdcnaibleihaaGreatDoorTie
import Derived.Test.YtmhdcnaibleihaaGreatDoorCards
import Derived.ProofKit
import Derived.OpenShut
import Derived.LaidMore
import Derived.Lay
import Derived.SevenTiedAt
import Derived.Stop.Joined
import Derived.Lib.LaidTab
import Derived.Stop.LaidErr
namespace Go.Proofs.YtmhdcnaibleihaaGreatDoor
set_option maxRecDepth 100000
open Go.ChangeShapes Go.WideShapes Go.ChangeAt Go.RowKit Go.Joins
set_option linter.unusedVariables false
set_option linter.unusedSimpArgs false

theorem cellsByteK : Tryz.prog.cellsOf 5 = 1 := by kernel_rfl

theorem u8_range {n : Int} (h : (Lit.int .u8 n).wf = true) : 0 ≤ n ∧ n ≤ 255 := by
  have := h
  simp [Lit.wf, IntKind.min, IntKind.max, IntKind.signed, IntKind.bits] at this
  omega

theorem read_bytes {H : Type} {enc : TypeId × Value → H} {W : World} {fuel : Nat} {c : Value} {y : DataW H × List MemPlace}
    (h : DataW.trod enc Tryz.prog W 0 (fun _ => true) true fuel 22 [c] = some y) :
    ∃ (A : Option Addr) (ps : List Nat) (cap : Nat), c = .slice A ps.length cap ∧ CellsAt W A (ps.map U8n) ∧ ps.length ≤ cap ∧ cap ≤ maxLen ∧ (∀ p ∈ ps, p ≤ 255) := by
  rcases open_ints Tryz.underlying22 Tryz.underlying5 cellsByteK h with ⟨hcs, hx⟩ | ⟨a, len, cap, zs, hcs, _, hl, hm, hz, hx, hcell, hwz⟩
  · simp only [List.cons.injEq, and_true] at hcs
    exact ⟨none, [], 0, hcs, CellsAt.nil _ _, Nat.le_refl _, Nat.zero_le _, by simp⟩
  · simp only [List.cons.injEq, and_true] at hcs
    simp only [if_true] at hz
    have hlen : (zs.take len).length = len := by simp; omega
    refine ⟨some a, (zs.take len).map Int.toNat, cap, by rw [List.length_map, hlen]; exact hcs, fun hne => ?_, by rw [List.length_map, hlen]; exact hl, hm, fun p hp => ?_⟩
    · have hpos : 0 < len := by
        rcases Nat.eq_zero_or_pos len with h0 | h0
        · subst h0; simp at hne
        · exact h0
      obtain ⟨b, o, sp⟩ := a
      have hspot : sp = none := by simpa [Addr.add] using World.cell?_spot (hcell 0 (by omega))
      subst hspot
      refine ⟨b, o, rfl, fun k u hk => ?_⟩
      rw [List.getElem?_map, List.getElem?_map] at hk
      have hkl : k < len := by
        rcases Nat.lt_or_ge k len with q | q
        · exact q
        · rw [List.getElem?_eq_none (by rw [hlen]; exact q)] at hk; simp at hk
      have h1 := hcell k (by omega)
      rw [add_plain] at h1
      have h2 : (zs.take len)[k]? = some (zs.getD k 0) := by
        rw [List.getElem?_take, if_pos hkl, List.getD_eq_getElem?_getD, List.getElem?_eq_getElem (by omega)]; rfl
      rw [h2] at hk
      simp only [Option.map_some, Option.some.injEq, U8n] at hk
      rw [h1, ← hk]
      have h3 := u8_range (hwz (zs.getD k 0) (by rw [List.getD_eq_getElem?_getD, List.getElem?_eq_getElem (by omega)]; exact List.getElem_mem _))
      rw [Int.toNat_of_nonneg h3.1]
    · obtain ⟨z, hz', rfl⟩ := List.mem_map.1 hp
      have := u8_range (hwz z (List.mem_of_mem_take hz'))
      omega

theorem generateWeighs_lifted (os : Os) (started : os.Started) (H : Type) (enc : TypeId × Value → H) :
    ReturnsInHanded {} Tryz.checked os 3 .any (fun w args => (Rows.generateWeighsSpec.pre enc Tryz.prog Tryz.f3 Rows.generateWeighsRow.domain false w args ∧ laidMetH Tryz.prog Rows.generateWeighsRow.laid w) ∧ sizedMet enc Tryz.prog Tryz.f3 (OpenSpec.ofChange Rows.generateWeighsSpec) false w args)
      (Rows.generateWeighsSpec.post enc Tryz.prog Tryz.f3 false true false false) := by
  refine returnsInHanded_of_change_and (C := Tryz.checked) (X := fun w _ => laidMetH Tryz.prog Rows.generateWeighsRow.laid w) (fun _ _ _ hh h => h.of_heap hh) ownK started (by kernel_rfl) Tryz.func3
    (ChangeSpec.witness_shaped (enc := enc) (C := Tryz.checked) (os := os) (X := fun w _ => laidMetH Tryz.prog Rows.generateWeighsRow.laid w) false (World.laidAll Tryz.prog os Rows.generateWeighsRow.laid) #[.slice none 0 0] 8 (World.laidAll_os _ _ _)
      (World.shaped_of_ZipB (by kernel_rfl) (by kernel_rfl)) (by kernel_rfl) (by kernel_rfl) (by kernel_rfl)
      (by rw [MakeChecks.laidMetH_plain _ _ _ (by kernel_rfl)]; exact laidMet_laidAll _ (by kernel_rfl) (by kernel_rfl))) ?_
  intro W base args ds gs before hval0 hW hc _ hL _
  have hval : ∀ (j : Nat) t v, Tryz.f3.params[j]? = some t → args[j]? = some v → Value.okWide Tryz.prog W .any base t v := hval0
  have hW' := hW
  obtain ⟨p, q, hA0, hV, rfl, _, _⟩ := hW
  have hA : DataW.TrodAll enc Tryz.prog W 0 (fun _ => true) true Tryz.f3.params.toList args.toList ds p := hA0
  rw [Tryz.params3] at hA hval
  obtain ⟨v0, d0, rfl, rfl, h0⟩ := trodAll_one hA
  obtain ⟨rfl, rfl⟩ := trodVars_none hV
  have hpost := fun (W' : World) (hb : Ext W W') => law_post (f := Tryz.f3) (s := Rows.generateWeighsSpec) (fresh := true) hW' rfl hb (by kernel_rfl) (by rw [Tryz.params3]; intro t ht; simp at ht; subst ht; exact ⟨by kernel_rfl, of_decide_eq_true (by kernel_rfl)⟩) rfl
  obtain ⟨a0, l0, k0, rfl⟩ := okWide_slice Tryz.underlying22 (hval 0 _ v0 rfl rfl)
  obtain ⟨fuel0, hf0⟩ := h0
  obtain ⟨A0, ps0, c0, ha0, hxs0, hc0, hcm0, hw0⟩ := read_bytes hf0
  simp only [Value.slice.injEq] at ha0
  obtain ⟨hA0, hl0, hc0'⟩ := ha0
  subst hA0 hl0 hc0'
  refine (weighs_any _ ps0 _ W hxs0 hc0 hcm0 hw0).mono fun e W' ⟨he, hb⟩ => ?_
  subst he
  exact ⟨_, rfl, hpost W' hb⟩

theorem generateWeighs_holds : Rows.GenerateWeighsSaid :=
  OpenClaim.holds_of_wide 3 Tryz.f3 rfl rfl rfl rfl rfl rfl rfl ⟨rfl, rfl, rfl, rfl, rfl⟩ rfl rfl rfl rfl rfl (by kernel_rfl) Tryz.func3 (by kernel_rfl)
    (of_decide_eq_true (by kernel_rfl)) (by unfold Func.isWrapper; first | (rw [if_pos (by decide +kernel)]; kernel_rfl) | (rw [if_neg (by decide +kernel)]; exact ⟨rfl, rfl⟩))
    (fun os started H enc _ => generateWeighs_lifted os started H enc)
theorem generateWeighs_card : Rows.GenerateWeighsCardSaid :=
  Claim7.holds_tied_plain_at .later [] [.data, .data, .data, .sentinel, .sentinel] true (true, "7066815b5b08e5d030cbcd2210ead0277f0b9c80be6d28dda5b567efcf13cf4f") true
    generateWeighs_holds (fun _ h => by cases h) (by kernel_rfl) (fun _ h => by cases h) generateWeighs_row_tie rfl ⟨rfl, rfl⟩ (by kernel_rfl) rfl
    (fun f fn hf hfn => by
      obtain rfl : f = 3 := Option.some.inj ((show Tryz.prog.funcNamed "cheval/chevallaw19.GenerateWeighs" = some 3 by kernel_rfl).symm.trans hf) |>.symm
      obtain rfl : fn = Tryz.f3 := (Option.some.inj (Tryz.func3.symm.trans hfn)).symm
      exact ⟨by kernel_rfl, fun j t ht => by
        rw [Tryz.params3] at ht
        have hm : t ∈ [22] := by simpa using Array.mem_of_getElem? ht
        have hall : ([22].all fun u => !Tryz.prog.wantsStandIn u) = true := by kernel_rfl
        exact (show Tryz.prog.wantsStandIn t = false by simpa using List.all_eq_true.1 hall t hm)⟩)
    (by kernel_rfl)
#print axioms generateWeighs_card
end Go.Proofs.YtmhdcnaibleihaaGreatDoor
