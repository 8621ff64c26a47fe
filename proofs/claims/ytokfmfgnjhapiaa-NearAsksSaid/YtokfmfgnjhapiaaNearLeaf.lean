/- slices.Equal, Clone, IndexFunc, ContainsFunc at may's predicate; near.may, near.with. -/
import Derived.Test.YtokfmfgnjhapiaaNearOrd
import Derived.Test.YtokfmfgnjhapiaaRefLoops
import Derived.Test.YtokfmfgnjhapiaaTwoCopies
namespace Go.Proofs.Ytokfmfgnjhapiaa
open Go.RowKit
set_option linter.unusedVariables false
set_option linter.unusedSimpArgs false

theorem eqL_step {xs ys : List Int} {k : Nat} (h1 : k < xs.length) (h2 : k < ys.length) :
    decide (xs.drop k = ys.drop k) = if xs[k]?.getD 0 = ys[k]?.getD 0 then decide (xs.drop (k + 1) = ys.drop (k + 1)) else false := by
  rw [List.drop_eq_getElem_cons h1, List.drop_eq_getElem_cons h2]
  simp only [List.getElem?_eq_getElem h1, List.getElem?_eq_getElem h2, Option.getD_some, List.cons.injEq]
  split <;> simp [*]

theorem equal_ne (A A' : Option Addr) (n m : Nat) (c c' : Nat) (w : World) (hn : n ≤ maxLen) (hm : m ≤ maxLen) (hne : n ≠ m) :
    Calls Try.prog 38 #[.slice A n c, .slice A' m c'] w fun e w' => e = .returned (.bool false) ∧ w' = w := by
  refine of_post fun R hR => ?_
  unfold maxLen at hn hm
  have hb : ((n : Int) != m) = true := by simp; omega
  clear hne
  go_enter Try.func38, Try.ntmps38
  go_wp2_with fail
  exact hR.out _ _ ⟨rfl, rfl⟩

theorem equal_eq (A A' : Option Addr) (xs ys : List Int) (n : Nat) (c c' : Nat) (w : World) (hA : IS w A xs) (hA' : IS w A' ys) (hn : n ≤ maxLen) (hx : xs.length = n) (hy : ys.length = n) :
    Calls Try.prog 38 #[.slice A n c, .slice A' n c'] w fun e w' => e = .returned (.bool (decide (xs = ys))) ∧ ∃ q, w' = w.drewN q := by
  refine of_post fun R hR => ?_
  unfold maxLen at hn
  have hb : ((n : Int) != n) = false := by simp
  have Hx := Lib.hid hx
  have Hy := Lib.hid hy
  clear hx hy
  have HA := Lib.hid hA
  have HA' := Lib.hid hA'
  clear hA hA'
  go_enter Try.func38, Try.ntmps38
  go_wp2
  go_loopw [5, 13] (fun _ i wr => ∃ k q : Nat, k ≤ n ∧ i = .int .i64 k ∧ wr = w.drewN q ∧ Hid (decide (xs = ys) = decide (xs.drop k = ys.drop k))) (fun _ i _ => n - (intOf i).toNat)
  case atStart => exact ⟨0, 0, Nat.zero_le _, rfl, rfl, Lib.hid rfl⟩
  case round =>
    obtain ⟨k, q, hk, rfl, rfl, HL⟩ := hrel
    by_cases hlt : k < n
    · obtain ⟨b, o, rfl, hc⟩ := HA.out (by intro h; have := Hx.out; simp [h] at this; omega)
      obtain ⟨b', o', rfl, hc'⟩ := HA'.out (by intro h; have := Hy.out; simp [h] at this; omega)
      have c1 := hc k (by rw [Hx.out]; exact hlt)
      have c2 := hc' k (by rw [Hy.out]; exact hlt)
      clear hc hc'
      have HS := Lib.hid (eqL_step (xs := xs) (ys := ys) (k := k) (by rw [Hx.out]; exact hlt) (by rw [Hy.out]; exact hlt))
      generalize xs[k]?.getD 0 = x at *
      generalize ys[k]?.getD 0 = y at *
      go_wp2
      go_quiet (fail)
      go_wp2
      · have he : (x != y) = true := by assumption
        exact hR.out _ _ ⟨ret_bb rfl (HL.out.trans (HS.out.trans (if_neg (by simpa using he)))).symm, _, by rw [World.drewN_drewN]⟩
      · have he : (x != y) = false := by assumption
        go_roundw
        case rel => exact ⟨k + 1, q + nq, by omega, by go_num, rfl, Lib.hid (HL.out.trans (HS.out.trans (if_pos (by simpa using he))))⟩
        case measure => simp [intOf]; omega
    · obtain rfl : k = n := by omega
      have HF : Hid (decide (xs = ys) = true) := Lib.hid (by
        rw [HL.out, List.drop_of_length_le (by rw [Hx.out]; exact Nat.le_refl _), List.drop_of_length_le (by rw [Hy.out]; exact Nat.le_refl _)]; simp)
      clear hlt
      go_wp2
      exact hR.out _ _ ⟨ret_bb rfl HF.out.symm, _, rfl⟩
theorem equal_any (A A' : Option Addr) (xs ys : List Int) (c c' : Nat) (w : World) (hA : IS w A xs) (hA' : IS w A' ys) (hn : xs.length ≤ maxLen) (hm : ys.length ≤ maxLen) :
    Calls Try.prog 38 #[.slice A xs.length c, .slice A' ys.length c'] w fun e w' => e = .returned (.bool (decide (xs = ys))) ∧ ∃ q, w' = w.drewN q := by
  by_cases h : xs.length = ys.length
  · rw [← h]
    exact equal_eq A A' xs ys xs.length c c' w hA hA' hn rfl h.symm
  · refine (equal_ne A A' _ _ c c' w hn hm h).mono ?_
    rintro e w' ⟨rfl, rfl⟩
    exact ⟨by rw [decide_eq_false (fun e => h (by rw [e]))], 0, rfl⟩

theorem clone_any (A : Option Addr) (xs : List Int) (n c : Nat) (w : World) (hA : IS w A xs) (hx : xs.length = n) (hn : n ≤ 1000000) :
    Calls Try.prog 55 #[.slice A n c] w fun e w' => (∃ v, e = .returned v ∧ OwnI w' w.heap.size v xs) ∧ Ext w w' := by
  refine of_post fun R hR => ?_
  obtain ⟨i0, hi, hz0, hz1, hz2⟩ := info_parts infoInt
  have heq := fun (W : World) (a : Option Addr) (n c : Nat) => Lib.run_eql_slice_nil (P := Try.prog) W 24 3 a n c 0 0 Try.underlying24
  cases A with
  | none =>
    obtain rfl : xs = [] := by
      by_cases h : xs = []
      · exact h
      · obtain ⟨b, o, e, _⟩ := hA h; cases e
    clear hA hx
    go_enter Try.func55, Try.ntmps55
    go_wp2_with fail
    exact hR.out _ _ ⟨⟨_, rfl, OwnI.nil _ _⟩, Ext.refl' _⟩
  | some a =>
    have HC := Lib.hid (CellsAt.ext (cells_of_IS hA) ((Ext.refl' w).alloc' (.cells #[] 3)))
    have HO := Lib.hid (own_empty w 3 1)
    have Hx := Lib.hid hx
    have hb1 : (0 + n) * 8 ≤ 140737488355328 := by omega
    have hb2 : 0 + n ≤ maxLen := by unfold maxLen; omega
    clear hA hx
    go_enter Try.func55, Try.ntmps55
    go_wp2_with (at_builtin; go_must (refine wpList_append_src _ rfl _ _ 24 rfl w.heap.size 3 i0 (.int .i64 0) 1 8 Try.underlying24 hi hz0 hz1 hz2 rfl (by decide) (.slice (some ⟨w.heap.size, 0, none⟩) 0 0) 0 [] rfl HO.out (some a) n c (xs.map I64) rfl (by simp [Hx.out]) HC.out (oneCells_I64 xs) hb1 hb2 (by simp) ?_); intro u' w2 hO1 hG1 hB1; simp only [Nat.zero_add, List.nil_append] at hO1; have HO1 := Lib.hid hO1; have HG1 := Lib.hid hG1; clear hO1 hG1 hB1)
    refine hR.out _ _ ⟨⟨_, rfl, ?_⟩, ext_grown_from ((Ext.refl' w).alloc' _) HG1.out ?_⟩
    · show World.ownsRow _ _ _ _ _ _ _
      rw [Hx.out]; exact HO1.out
    · intro k hk
      simp [Value.ownBlock] at hk
      omega

theorem neg_any (x : Int) (w : World) : Calls Try.prog 50 #[.int .i64 x] w fun e w' => e = .returned (.bool (decide (x < 0))) ∧ w' = w := by
  refine of_post fun R hR => ?_
  go_enter Try.func50, Try.ntmps50
  go_wp2_with fail
  exact hR.out _ _ ⟨rfl, rfl⟩

def negs (xs : List Int) : Bool := xs.any fun x => decide (x < 0)
theorem index_any (A : Option Addr) (xs : List Int) (n c : Nat) (w : World) (hA : IS w A xs) (hx : xs.length = n) (hn : n ≤ maxLen) :
    Calls Try.prog 60 #[.slice A n c, .func (.func 50) #[] #[]] w fun e w' => (∃ r : Int, e = .returned (.int .i64 r) ∧ decide (0 ≤ r) = negs xs) ∧ w' = w := by
  refine of_post fun R hR => ?_
  unfold maxLen at hn
  have HA := Lib.hid hA
  have Hx := Lib.hid hx
  have HP := fun x W => Lib.hid (neg_any x W)
  clear hA hx
  go_enter Try.func60, Try.ntmps60
  go_wp2_with fail
  go_loopw [5, 8] (fun _ i wr => ∃ k : Nat, k ≤ n ∧ i = .int .i64 k ∧ wr = w ∧ Hid (negs xs = negs (xs.drop k))) (fun _ i _ => n - (intOf i).toNat)
  case atStart => exact ⟨0, Nat.zero_le _, rfl, rfl, Lib.hid rfl⟩
  case round =>
    obtain ⟨k, hk, rfl, rfl, HL⟩ := hrel
    by_cases hlt : k < n
    · obtain ⟨b, o, rfl, hc⟩ := HA.out (by intro h; have := Hx.out; simp [h] at this; omega)
      have c1 := hc k (by rw [Hx.out]; exact hlt)
      clear hc
      have HS : Hid (negs (xs.drop k) = (decide (xs[k]?.getD 0 < 0) || negs (xs.drop (k + 1)))) := Lib.hid (by
        have h1 : k < xs.length := by rw [Hx.out]; exact hlt
        unfold negs; rw [List.drop_eq_getElem_cons h1, List.any_cons, List.getElem?_eq_getElem h1, Option.getD_some])
      generalize xs[k]?.getD 0 = x at *
      go_wp2_with fail
      refine (HP x _).out.mono ?_
      rintro e w1 ⟨rfl, rfl⟩
      go_wp2_with fail
      · have h : x < 0 := by assumption
        exact hR.out _ _ ⟨⟨_, rfl, by rw [HL.out, HS.out]; simp [h]⟩, rfl⟩
      · have h : 0 ≤ x := by assumption
        go_roundw
        case rel => exact ⟨k + 1, by omega, by go_num, trivial, Lib.hid (HL.out.trans (HS.out.trans (by rw [decide_eq_false (by omega)]; rfl)))⟩
        case measure => simp [intOf]; omega
    · obtain rfl : k = n := by omega
      have HF : Hid (negs xs = false) := Lib.hid (by rw [HL.out, List.drop_of_length_le (by rw [Hx.out]; exact Nat.le_refl _)]; rfl)
      clear hlt
      go_wp2_with fail
      exact hR.out _ _ ⟨⟨_, rfl, by rw [HF.out]; rfl⟩, rfl⟩

theorem contains_any (A : Option Addr) (xs : List Int) (n c : Nat) (w : World) (hA : IS w A xs) (hx : xs.length = n) (hn : n ≤ maxLen) :
    Calls Try.prog 49 #[.slice A n c, .func (.func 50) #[] #[]] w fun e w' => e = .returned (.bool (negs xs)) ∧ w' = w := by
  refine of_post fun R hR => ?_
  have HI := Lib.hid (index_any A xs n c w hA hx hn)
  clear hA hx hn
  go_enter Try.func49, Try.ntmps49
  go_wp2_with fail
  refine HI.out.mono ?_
  rintro e w1 ⟨⟨r, rfl, hr⟩, rfl⟩
  have HR := Lib.hid hr
  clear hr
  go_wp2_with fail
  exact hR.out _ _ ⟨ret_bb rfl HR.out, rfl⟩

def mayL (xs : List Int) : Bool := decide (xs.length ≤ 128) && !negs xs
theorem may_near (A : Option Addr) (xs : List Int) (n c : Nat) (w : World) (hA : IS w A xs) (hx : xs.length = n) (hn : n ≤ maxLen) :
    Calls Try.prog 34 #[.slice A n c] w fun e w' => e = .returned (.bool (mayL xs)) ∧ w' = w := by
  refine of_post fun R hR => ?_
  have HI := fun W => Lib.hid (contains_any A xs n c W)
  have HA := Lib.hid hA
  have Hx := Lib.hid hx
  have HN := Lib.hid hn
  clear hA hx
  unfold maxLen at hn
  by_cases hm : n ≤ 128
  · have h1 : (n : Int) ≤ 128 := by omega
    go_enter Try.func34, Try.ntmps34
    go_wp2_with fail
    refine ((HI w).out HA.out Hx.out HN.out).mono ?_
    rintro e w1 ⟨rfl, rfl⟩
    have HM : Hid (mayL xs = !negs xs) := Lib.hid (by simp [mayL, Hx.out, hm])
    generalize negs xs = b at *
    go_wp2_with fail
    exact hR.out _ _ ⟨ret_bb rfl HM.out.symm, rfl⟩
  · have h1 : ¬ (n : Int) ≤ 128 := by omega
    go_enter Try.func34, Try.ntmps34
    go_wp2_with fail
    exact hR.out _ _ ⟨ret_bb rfl (by simp [mayL, Hx.out, hm]), rfl⟩

theorem with_any (A : Option Addr) (xs : List Int) (n c : Nat) (i : Nat) (d : Int) (w : World) (hA : IS w A xs) (hx : xs.length = n) (hn : n ≤ 1000000) (hi : i < n) :
    Calls Try.prog 56 #[.slice A n c, .int .i64 i, .int .i64 d] w fun e w' => (∃ g cp, e = .returned (.slice (some ⟨g, 0, none⟩) n cp) ∧ OwnI w' w.heap.size (.slice (some ⟨g, 0, none⟩) n cp) (xs.set i d)) ∧ Ext w w' := by
  refine of_post fun R hR => ?_
  have HC := Lib.hid (clone_any A xs n c w hA hx hn)
  have Hx := Lib.hid hx
  clear hA hx
  go_enter Try.func56, Try.ntmps56
  go_wp2_with fail
  refine HC.out.mono ?_
  rintro e w1 ⟨⟨v, rfl, ho⟩, hx⟩
  have ho' : w1.ownsRow w.heap.size 3 1 v n (xs.map I64) := by have := ho; unfold OwnI at this; rwa [Hx.out] at this
  obtain ⟨g, cp, rfl, hbg, hg⟩ := ho'.form (by omega)
  have q1 := ho'.cellAt i (by omega)
  have q2 := ho'.frozenAt i
  have HO := Lib.hid ho'
  have HX := Lib.hid hx
  have Hxi : Hid ((xs.map I64)[i]? = some (I64 (xs[i]?.getD 0))) := Lib.hid (by
    have : i < xs.length := by rw [Hx.out]; exact hi
    simp [this])
  rw [Hxi.out] at q1
  clear ho ho' hx
  have hle := own_le HO.out
  generalize xs[i]?.getD 0 = y at *
  unfold I64 at q1
  go_wp2_with fail
  refine hR.out _ _ ⟨⟨g, cp, rfl, ?_⟩, ext_grown_from HX.out (HO.out.stored i _).2 (fun k e => by cases e; exact hbg)⟩
  show World.ownsRow _ _ _ _ _ _ _
  rw [List.length_set, Hx.out, List.map_set]
  exact (HO.out.stored i (I64 d)).1
end Go.Proofs.Ytokfmfgnjhapiaa
