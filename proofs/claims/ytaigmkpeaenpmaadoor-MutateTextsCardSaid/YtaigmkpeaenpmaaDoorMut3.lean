/- The program's mutations, one by one: turn, perturb. -/
import Derived.Test.YtaigmkpeaenpmaaDoorMut2
namespace Go.Proofs.YtaigmkpeaenpmaaDoor
set_option maxRecDepth 100000
open Go.RowKit
set_option linter.unusedVariables false
set_option linter.unusedSimpArgs false

theorem rowIs_of_own {w : World} {base g n cp : Nat} {zs : List Int} (h : w.ownsRow base 3 1 (.slice (some ⟨g, 0, none⟩) n cp) n (zs.map I64)) :
    ∃ y : Nat → Value, base ≤ g ∧ n ≤ cp ∧ zs.length = n ∧ cp ≤ maxLen ∧ w.rowIs g 3 cp (fun j => if j < n then .int .i64 (zs.getD j 0) else y j) := by
  have hl : zs.length = n := by simpa using h.1
  rcases h.2 with ⟨h1, _⟩ | ⟨g', cap, cur, hv, hb, hg, hnc, hcm, hcs, htake⟩
  · simp at h1
  · injection hv with h1 h2 h3
    injection h1 with h1
    injection h1 with h1
    subst h1; subst h3
    refine ⟨fun j => cur.getD j undef, hb, hnc, hl, hcm, cur, hg, by simpa using hcs, fun i hi => ?_⟩
    have hi' : i < cur.size := by simpa [hcs] using hi
    by_cases hin : i < n
    · simp only [if_pos hin]
      have ht := congrArg (fun l : List Value => l[i]?) htake
      simp only [Nat.mul_one, List.getElem?_take, if_pos hin] at ht
      rw [← Array.getElem?_toList, ht, List.getElem?_map, List.getElem?_eq_getElem (by omega)]
      simp [I64, List.getElem?_eq_getElem (show i < zs.length by omega)]
    · simp only [if_neg hin]
      simp [hi']

theorem own_of_rowIs {w : World} {base g n cp : Nat} {zs : List Int} {f : Nat → Value} (h : w.rowIs g 3 cp f) (hb : base ≤ g) (hn : n ≤ cp) (hm : cp ≤ maxLen) (hl : zs.length = n) (hf : ∀ j, j < n → f j = .int .i64 (zs.getD j 0)) :
    w.ownsRow base 3 1 (.slice (some ⟨g, 0, none⟩) n cp) n (zs.map I64) := by
  obtain ⟨cur, hg, hs, hc⟩ := h
  refine ⟨by simp [hl], .inr ⟨g, cp, cur, rfl, hb, hg, hn, hm, by simpa using hs, ?_⟩⟩
  apply List.ext_getElem?
  intro j
  simp only [Nat.mul_one, List.getElem?_take, List.getElem?_map]
  by_cases hj : j < n
  · rw [if_pos hj, Array.getElem?_toList, hc j (by omega), hf j hj, List.getElem?_eq_getElem (by omega)]
    simp [I64, List.getElem?_eq_getElem (show j < zs.length by omega)]
  · rw [if_neg hj, List.getElem?_eq_none (by omega)]
    rfl

def turned (xs : List Int) (i k : Nat) : List Int := xs.take i ++ (((xs.drop i).take (k - i)).reverse ++ xs.drop k)
theorem turned_length (xs : List Int) (i k : Nat) (hik : i ≤ k) (hk : k ≤ xs.length) : (turned xs i k).length = xs.length := by
  simp [turned]; omega
theorem turned_get (xs : List Int) (i k j : Nat) (hik : i ≤ k) (hk : k ≤ xs.length) (hj : j < xs.length) :
    (turned xs i k).getD j 0 = if i ≤ j ∧ j < k then xs.getD (i + k - 1 - j) 0 else xs.getD j 0 := by
  unfold turned
  simp only [List.getD_eq_getElem?_getD]
  have hl1 : (xs.take i).length = i := by simp; omega
  have hl2 : (((xs.drop i).take (k - i)).reverse).length = k - i := by simp; omega
  by_cases h1 : j < i
  · rw [if_neg (by omega), List.getElem?_append_left (by omega), List.getElem?_take, if_pos h1]
  · rw [List.getElem?_append_right (by omega), hl1]
    by_cases h2 : j < k
    · rw [if_pos ⟨by omega, h2⟩, List.getElem?_append_left (by omega), List.getElem?_reverse (by simp; omega), List.getElem?_take, if_pos (by simp; omega), List.getElem?_drop]
      congr 2
      simp
      omega
    · rw [if_neg (by omega), List.getElem?_append_right (by omega), hl2, List.getElem?_drop]
      congr 2
      omega

set_option maxHeartbeats 400000 in
theorem turn_yes (m0 m3 : Int) (i k : Nat) (A B : Option Addr) (xs : List Int) (n m c b : Nat) (w : World) (hA : CellsAt w A (xs.map I64)) (hx : xs.length = n) (hn : n ≤ 1000) (hc : n ≤ c) (hik : i ≤ k) (hk : k ≤ n) :
    Calls Tryd.prog 31 #[.agg #[.int .i64 m0, .int .i64 i, .int .i64 k, .int .i64 m3], .slice A n c, .slice B m b] w (Made w (turned xs i k)) := by
  obtain ⟨zs, hz⟩ : ∃ zs, zs = turned xs i k := ⟨_, rfl⟩
  rw [← hz]
  have Hz := Lib.hid hz
  clear hz
  refine of_post fun R hR => ?_
  have HS := fun o => Lib.hid (spans_any m0 i k m3 A n c (w.alloc o) (by unfold maxLen; omega))
  have e1 : (0 : Int) ≤ i := by omega
  have e2 : (i : Int) ≤ k := by omega
  have e3 : (k : Int) ≤ n := by omega
  have hb : decide (0 ≤ (i : Int) ∧ (i : Int) ≤ k ∧ (k : Int) ≤ (n : Int)) = true := by simpa using And.intro hik hk
  have HA := Lib.hid hA
  have Hx := Lib.hid hx
  clear hA hx
  go_enter Tryd.func31, Tryd.ntmps31
  go_wp2_with fail
  refine (HS _).out.mono ?_
  rintro e w1 ⟨rfl, hxt⟩
  rw [hb]
  have q1 := hxt.cell' (p := ⟨w.heap.size, 1, none⟩) (v := .int .i64 i) (by simp)
  have q2 := hxt.cell' (p := ⟨w.heap.size, 2, none⟩) (v := .int .i64 k) (by simp)
  have HX := Lib.hid (((Ext.refl' w).alloc' _).trans' hxt)
  clear hxt HS
  go_wp2_with fail
  refine (made_made _ [⟨A, c, xs⟩] xs 1 1 _ ?_ ?_ rfl (by omega) (by simp [flat]) (by rw [Hx.out]; omega)).mono ?_
  · simp only [List.map_cons, List.map_nil, IRow.val, Hx.out]
    exact cellsAt_new w1 _ _
  · intro r hr
    simp only [List.mem_cons, List.not_mem_nil, or_false] at hr
    subst hr
    exact HA.out.ext (HX.out.alloc' _)
  · rintro e w2 ⟨⟨g, cp, rfl, ho⟩, hx2⟩
    rw [Hx.out] at ho
    obtain ⟨y, hb1, hb2, hb3, hb4, hrow⟩ := rowIs_of_own ho
    have p1 := hx2.cell' (p := ⟨w.heap.size, 1, none⟩) (v := .int .i64 i) (by rw [World.cell?_alloc_lt _ _ _ (lt_of_cell q1)]; exact q1)
    have p2 := hx2.cell' (p := ⟨w.heap.size, 2, none⟩) (v := .int .i64 k) (by rw [World.cell?_alloc_lt _ _ _ (lt_of_cell q2)]; exact q2)
    rw [Hx.out]
    have e5 : (k : Int) ≤ cp := by omega
    have HB := Lib.hid (And.intro hb1 (And.intro hb2 (And.intro hb3 hb4)))
    have HROW := Lib.hid hrow
    have HX2 := Lib.hid ((HX.out.alloc' _).trans' hx2)
    clear hrow ho hb1 hb3 hb4 hx2 q1 q2
    have hrev : ∀ (o c' : Nat), (o = i ∨ i = k) → o + (k - i) ≤ n → Hid (Calls Tryd.prog 40 #[.slice (some ⟨g, o, none⟩) (k - i) c'] w2 fun e w' => e = .returned (.tuple #[]) ∧ R (.returned (.slice (some ⟨g, 0, none⟩) n cp)) w') := by
      intro o c' ho hle
      refine Lib.hid ((reverse_any g cp o (k - i) c' (fun j => xs.getD j 0) (fun j => if j < n then .int .i64 (xs.getD j 0) else y j) w2 (HROW.out.congr fun j _ => ?_) (by omega) (by omega)).mono ?_)
      · by_cases h1 : o ≤ j ∧ j < o + (k - i)
        · rw [if_pos h1, if_pos (by omega)]
        · rw [if_neg h1]
      · rintro e w3 ⟨rfl, hrow3, hg3⟩
        refine ⟨rfl, ?_⟩
        have hzl : zs.length = n := by rw [Hz.out, turned_length xs i k hik (by rw [Hx.out]; exact hk), Hx.out]
        have hown := own_of_rowIs (zs := zs) hrow3 HB.out.1 hb2 HB.out.2.2.2 hzl fun j hj => by
          rw [Hz.out, turned_get xs i k j hik (by rw [Hx.out]; exact hk) (by rw [Hx.out]; exact hj)]
          by_cases h1 : o ≤ j ∧ j < o + (k - i)
          · rw [if_pos h1, if_pos (by omega)]
            congr 2; omega
          · rw [if_neg h1, if_pos hj, if_neg (by omega)]
        rw [← hzl]
        refine hR.out _ _ ⟨⟨g, cp, rfl, ?_⟩, ext_grown_from HX2.out hg3 fun j e => ?_⟩
        · rw [hzl]
          exact own_mono hown (by simp; exact Nat.le_trans ((Ext.refl' w).alloc' (.cells #[] 0)).size (by have := HX.out.size; simp; omega))
        · injection e with e
          subst e
          have h1 := HB.out.1
          have h2 := HX.out.size
          simp at h1
          omega
    have hrev0 : k = i → ∀ c' : Nat, Calls Tryd.prog 40 #[.slice (some ⟨g, 0, none⟩) 0 c'] w2 fun e w' => e = .returned (.tuple #[]) ∧ R (.returned (.slice (some ⟨g, 0, none⟩) n cp)) w' := by
      intro e c'
      have := (hrev 0 c' (.inr e.symm) (by omega)).out
      rwa [show k - i = 0 by omega] at this
    have HV := Lib.hid hrev
    have HV0 := Lib.hid hrev0
    clear hrev hrev0
    by_cases hcp : cp = i
    · have hk0 : k = i := by omega
      subst hcp
      subst hk0
      go_wp2_with fail
      refine (HV0.out (by first | exact rfl | trivial) _).mono ?_
      rintro e w' ⟨rfl, hr⟩
      have HRr := Lib.hid hr
      clear hr
      go_wp2
      exact HRr.out
    · go_wp2_with fail
      refine (HV.out i _ (.inl rfl) (by omega)).out.mono ?_
      rintro e w' ⟨rfl, hr⟩
      have HRr := Lib.hid hr
      clear hr
      go_wp2
      exact HRr.out

theorem perturb_yes (m0 m2 d : Int) (i : Nat) (A B : Option Addr) (xs : List Int) (n m c b : Nat) (w : World) (hA : CellsAt w A (xs.map I64)) (hx : xs.length = n) (hn : n ≤ 1000) (hc : n ≤ c) (hi : i < n) (hd0 : 0 ≤ d) (hd1 : d < 4294967296) :
    Calls Tryd.prog 22 #[.agg #[.int .i64 m0, .int .i64 i, .int .i64 m2, .int .i64 d], .slice A n c, .slice B m b] w (Made w (xs.set i d)) := by
  obtain ⟨zs, hz⟩ : ∃ zs, zs = xs.set i d := ⟨_, rfl⟩
  rw [← hz]
  have Hz := Lib.hid hz
  clear hz
  refine of_post fun R hR => ?_
  have e1 : (0 : Int) ≤ i := by omega
  have e2 : (i : Int) < n := by omega
  have HA := Lib.hid hA
  have Hx := Lib.hid hx
  clear hA hx
  go_enter Tryd.func22, Tryd.ntmps22
  go_wp2_with fail
  refine (made_made _ [⟨A, c, xs⟩] xs 1 1 _ ?_ ?_ rfl (by omega) (by simp [flat]) (by rw [Hx.out]; omega)).mono ?_
  · simp only [List.map_cons, List.map_nil, IRow.val, Hx.out]
    exact cellsAt_new2 w _ _ _
  · intro r hr
    simp only [List.mem_cons, List.not_mem_nil, or_false] at hr
    subst hr
    exact HA.out.ext (((Ext.refl' w).alloc' _).alloc' _)
  · rintro e w2 ⟨⟨g, cp, rfl, ho⟩, hx2⟩
    rw [Hx.out] at ho
    have p1 := hx2.cell' (p := ⟨w.heap.size, 1, none⟩) (v := .int .i64 i) (by simp)
    have p2 := hx2.cell' (p := ⟨w.heap.size, 3, none⟩) (v := .int .i64 d) (by simp)
    rw [Hx.out]
    have f1 := ho.frozenAt i
    have c1 := ho.cellAt i (by omega)
    rw [List.getElem?_map, List.getElem?_eq_getElem (by rw [Hx.out]; exact hi)] at c1
    simp only [Option.map_some, I64] at c1
    have hst := ho.stored i (.int .i64 d)
    have hlt := ho.lt g rfl
    have HST := Lib.hid hst
    have HLT := Lib.hid hlt
    have HX2 := Lib.hid ((((Ext.refl' w).alloc' _).alloc' _).trans' hx2)
    clear ho hst hx2 hlt
    generalize xs[i]'(by rw [Hx.out]; exact hi) = x0 at *
    go_wp2
    have hzl : zs.length = n := by rw [Hz.out, List.length_set, Hx.out]
    have hM : Made w zs (.returned (.slice (some ⟨g, 0, none⟩) zs.length cp)) (w2.setCell ⟨g, i, none⟩ (.int .i64 d)) := by
      refine ⟨⟨g, cp, rfl, ?_⟩, ext_grown_from HX2.out HST.out.2 fun k e => ?_⟩
      · rw [hzl, Hz.out, List.map_set]
        exact own_mono HST.out.1 (by simp; omega)
      · injection e with e
        subst e
        have := HLT.out.1
        simp at this
        omega
    rw [hzl] at hM
    exact hR.out _ _ hM
end Go.Proofs.YtaigmkpeaenpmaaDoor
