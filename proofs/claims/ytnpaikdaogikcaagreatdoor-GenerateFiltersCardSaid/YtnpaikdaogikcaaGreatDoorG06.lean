/- whole.form, whole.Parse (where it tells a number). -/
import Derived.Test.YtnpaikdaogikcaaGreatDoorG01
import Derived.Test.YtnpaikdaogikcaaGreatDoorG03
import Derived.Test.YtnpaikdaogikcaaGreatDoorShelf
import Derived.Lib.OthersKept
import Derived.Laws.RangeAny
import Derived.Lib.SmallJoins
import Derived.Lib.LaidTab
import Derived.Test.YtnpaikdaogikcaaGreatDoorG05

namespace Go.Proofs.YtnpaikdaogikcaaGreatDoor
set_option maxRecDepth 100000
open Go.RowKit Go.Sort Go.Joins
set_option linter.unusedVariables false
set_option linter.unusedSimpArgs false

theorem toList_data (d : ByteArray) : d.toList = d.data.toList := ByteArray.toList_eq d

set_option maxHeartbeats 1000000 in
theorem form_any (s : ByteArray) (w : World) (hs : s.size ≤ 281474976710656) :
    Calls Tryz.prog 170 #[.string s] w fun e w' => e = .returned (.bool (formL s.data.toList)) ∧ Ext w w' := by
  refine of_post fun R hR => ?_
  go_enter Tryz.func170, Tryz.ntmps170
  go_wp2_with fail
  refine (Tryz.strings_TrimPrefix _ _ _).mono ?_
  rintro e w1 ⟨rfl, hw1⟩
  obtain rfl : w = w1 := hw1.symm
  obtain ⟨d, hd⟩ : ∃ d : ByteArray, d = ⟨(Lib.trimPrefix s.data.toList [45]).toArray⟩ := ⟨_, rfl⟩
  have HD : Hid (formL s.data.toList = formD d.data.toList) := Lib.hid (by rw [hd]; rfl)
  rw [← hd]
  clear hd
  have HTL : Hid (d.toList = d.data.toList) := Lib.hid (toList_data d)
  by_cases he : d.toList = []
  · have HF : Hid (formL s.data.toList = false) := Lib.hid (by rw [HD.out, ← HTL.out, he]; rfl)
    go_wp2_with fail
    exact hR.out _ _ ⟨ret_bb rfl HF.out.symm, Ext.refl' _⟩
  · have he1 : d.toList.isEmpty = false := by simpa using he
    have hsz : 0 < d.size := by
      rcases Nat.eq_zero_or_pos d.size with h | h
      · exact absurd (by rw [HTL.out]; exact List.eq_nil_of_length_eq_zero h) he
      · exact h
    have H0 : Hid (d.data.toList.head? = some d[0]) := Lib.hid (by rw [List.head?_eq_getElem?]; rw [List.getElem?_eq_getElem (by simpa using hsz)]; rfl)
    have HE := Lib.hid he
    clear he
    by_cases c : (d[0].toNat : Int) = 48 ∧ (d.toList == [48]) = false
    · obtain ⟨c0, c1⟩ := c
      have HF : Hid (formL s.data.toList = false) := Lib.hid (by
        have h48 : d[0] = 48 := UInt8.toNat_inj.1 (by show d[0].toNat = 48; omega)
        rw [HD.out]; unfold formD; rw [H0.out, h48, ← HTL.out, c1, he1]; rfl)
      go_wp2_with fail
      exact hR.out _ _ ⟨ret_bb rfl HF.out.symm, Ext.refl' _⟩
    · have HF : Hid (formL s.data.toList = d.data.toList.all isDig) := Lib.hid (by
        rw [HD.out]; unfold formD; rw [H0.out, ← HTL.out, he1]
        by_cases c1 : d.toList = [48]
        · rw [c1]; simp
        · have c2 : (d.toList == [48]) = false := by simpa using c1
          have c0 : ¬ (d[0] = 48) := fun h => c ⟨by rw [h]; rfl, c2⟩
          have c3 : ((some d[0] : Option UInt8) == some 48) = false := by simpa using c0
          rw [c3]; rfl)
      have hcase : ((d[0].toNat : Int) = 48 ∧ (d.toList == [48]) = true) ∨ ¬ (d[0].toNat : Int) = 48 := by
        by_cases c0 : (d[0].toNat : Int) = 48
        · exact .inl ⟨c0, by cases h : (d.toList == [48]) with | true => rfl | false => exact absurd ⟨c0, h⟩ c⟩
        · exact .inr c0
      clear c
      rcases hcase with ⟨c0, c1⟩ | c0
      all_goals
        go_wp2_with fail
        go_loopw [5] (fun _ wr => ∃ pos, pos ≤ d.size ∧ wr.heap[w.heap.size]? = some (.stringIter d pos) ∧ Hid (d.data.toList.all isDig = (d.data.toList.drop pos).all isDig) ∧ Hid (Ext w wr)) (fun _ wr => d.size - wr.iterPos w.heap.size)
        case atStart => exact ⟨0, Nat.zero_le _, World.iter_heap w d 0, Lib.hid rfl, Lib.hid ((Ext.refl' w).alloc' _)⟩
        case round =>
          obtain ⟨pos, hpos, hit, HA, HX⟩ := hrel
          by_cases hp : pos < d.size
          · have hip : wr.iterPos w.heap.size = pos := by simp [World.iterPos, hit]
            have HST : Hid ((d.data.toList.drop pos).all isDig = (isDig d[pos] && (d.data.toList.drop (pos + 1)).all isDig)) := Lib.hid (by
              rw [List.drop_eq_getElem_cons (by simpa using hp), List.all_cons]; rfl)
            by_cases ha : d[pos].toNat < 128
            · have hnx : ∀ ty, (Instr.next (.pointer (some ⟨w.heap.size, 0, none⟩)) true ty).run Tryz.prog wr = _ := fun ty => Lib.run_next_ascii_at wr w.heap.size d pos ty hit hp ha
              have HX2 : Hid (Ext w (wr.iterAt w.heap.size d (pos + 1))) := Lib.hid (Lib.below_iterAt HX.out (Nat.le_refl _) _ _)
              have HI2 : Hid ((wr.iterAt w.heap.size d (pos + 1)).heap[w.heap.size]? = some (.stringIter d (pos + 1))) := Lib.hid (Lib.iterAt_heap _ _ _ _ _ hit)
              have HIT := Lib.hid hit
              have HIP := Lib.hid hip
              generalize wr.iterAt w.heap.size d (pos + 1) = w2 at *
              have HDG : Hid (isDig d[pos] = true ↔ 48 ≤ d[pos].toNat ∧ d[pos].toNat ≤ 57) := Lib.hid (dig_iff _)
              generalize d[pos] = x at *
              clear hit hip
              by_cases hd : 48 ≤ x.toNat ∧ x.toNat ≤ 57
              · have HN : Hid (d.data.toList.all isDig = (d.data.toList.drop (pos + 1)).all isDig) := Lib.hid (by rw [HA.out, HST.out, HDG.out.2 hd]; rfl)
                obtain ⟨d1, d2⟩ := hd
                have d1' : ¬ (x.toNat : Int) < 48 := by omega
                have d2' : ¬ (57 : Int) < x.toNat := by omega
                go_wp2_with fail
                go_roundw
                case rel => exact ⟨pos + 1, hp, HI2.out, HN, HX2⟩
                case measure =>
                  have := HIP.out
                  have h2 : w2.iterPos w.heap.size = pos + 1 := by simp [World.iterPos, HI2.out]
                  omega
              · have HFF : Hid (d.data.toList.all isDig = false) := Lib.hid (by
                  rw [HA.out, HST.out]
                  cases h : isDig x with
                  | true => exact absurd (HDG.out.1 h) hd
                  | false => rfl)
                by_cases d1 : (x.toNat : Int) < 48
                · go_wp2_with fail
                  exact hR.out _ _ ⟨ret_bb rfl (by rw [HF.out, HFF.out]), HX2.out⟩
                · have d2 : (57 : Int) < x.toNat := by omega
                  go_wp2_with fail
                  exact hR.out _ _ ⟨ret_bb rfl (by rw [HF.out, HFF.out]), HX2.out⟩
            · have hhi := decode_high d pos hp (by omega)
              have hnx : ∀ ty, (Instr.next (.pointer (some ⟨w.heap.size, 0, none⟩)) true ty).run Tryz.prog wr = _ := fun ty => Lib.run_next_any_at wr w.heap.size d pos ty hit hp
              have HX2 : Hid (Ext w (wr.iterAt w.heap.size d (pos + (Utf8.decode d pos).2))) := Lib.hid (Lib.below_iterAt HX.out (Nat.le_refl _) _ _)
              generalize wr.iterAt w.heap.size d (pos + (Utf8.decode d pos).2) = w2 at *
              generalize (Utf8.decode d pos).1 = r at *
              have HFF : Hid (d.data.toList.all isDig = false) := Lib.hid (by
                rw [HA.out, HST.out]
                cases h : isDig d[pos] with
                | true => have := (dig_iff _).1 h; omega
                | false => rfl)
              have d1 : ¬ (r : Int) < 48 := by omega
              have d2 : (57 : Int) < r := by omega
              clear hit hip ha
              go_wp2_with fail
              exact hR.out _ _ ⟨ret_bb rfl (by rw [HF.out, HFF.out]), HX2.out⟩
          · obtain rfl : pos = d.size := by omega
            have hnx : ∀ ty, (Instr.next (.pointer (some ⟨w.heap.size, 0, none⟩)) true ty).run Tryz.prog wr = _ := fun ty => Lib.run_next_end_at wr w.heap.size d d.size ty hit hp
            have HT : Hid (d.data.toList.all isDig = true) := Lib.hid (by rw [HA.out, List.drop_of_length_le (by simp)]; rfl)
            clear hit
            go_wp2_with fail
            exact hR.out _ _ ⟨ret_bb rfl (by rw [HF.out, HT.out]), HX.out⟩

theorem whole_parse_ok (s : ByteArray) (n : Int) (w : World) (hs : s.size ≤ 281474976710656) (hf : formL s.data.toList = true) (hn : Lib.parseIntB 64 s.data.toList = .ok n) :
    Calls Tryz.prog 127 #[.string s] w fun e w' => e = .returned (.tuple #[.int .i64 n, .int .i64 0]) ∧ Ext w w' := by
  refine of_post fun R hR => ?_
  have HF := fun w => Lib.hid (form_any s w hs)
  rw [hf] at HF
  have HC := fun w => Lib.hid (Tryz.strconv_ParseInt_10_at64_ok s (by omega) n hn w)
  clear hf hn
  go_enter Tryz.func127, Tryz.ntmps127
  go_wp2_with fail
  refine (HF _).out.mono ?_
  rintro e w1 ⟨rfl, hx⟩
  have HX := Lib.hid hx
  clear hx
  go_wp2_with fail
  refine (HC _).out.mono ?_
  rintro e w2 ⟨rfl, hw⟩
  have HX2 : Hid (Ext w w2) := Lib.hid (by
    rcases hw with rfl | ⟨t, rfl⟩
    · exact HX.out
    · exact HX.out.trans' (below_bytesWorld _ _ _ _ (Nat.le_refl _)))
  clear hw
  go_wp2_with fail
  exact hR.out _ _ ⟨rfl, HX2.out⟩
end Go.Proofs.YtnpaikdaogikcaaGreatDoor

/- The terms' parser: a number that follows. -/
namespace Go.Proofs.YtnpaikdaogikcaaGreatDoor
set_option maxRecDepth 100000
open Go.RowKit
set_option linter.unusedVariables false
set_option linter.unusedSimpArgs false

theorem minus_prefix (S : ByteArray) (b : Nat) : Lib.hasPrefix (S.extract b S.size).data.toList [45] = decide ((tl S)[b]? = some 45) := by
  rw [tl_drop]
  unfold Lib.hasPrefix
  cases h : (tl S).drop b with
  | nil =>
    have : (tl S)[b]? = none := by rw [← List.head?_drop, h]; rfl
    rw [this]; rfl
  | cons c r =>
    have : (tl S)[b]? = some c := by rw [← List.head?_drop, h]; rfl
    rw [this]
    by_cases hc : c = 45
    · subst hc; rfl
    · rw [decide_eq_false (fun h => hc (Option.some.inj h))]
      show ((45 : UInt8) == c && ([] : Bs).isPrefixOf r) = false
      rw [show ((45 : UInt8) == c) = false from by simpa using fun h => hc h.symm]; rfl
set_option maxHeartbeats 2000000 in
theorem numberT (S : ByteArray) (i pb : Nat) (pl : Int) (sign : Bool) (n : Int) (e : Nat) (w : World) (hp : PA 66 w pb S i pl 0) (hi : i ≤ S.size) (hS : S.size ≤ 100000) (hn : numAt (tl S) (blanks (tl S) i) sign = some (n, e)) :
    Calls Tryz.prog 96 #[.pointer (some ⟨pb, 0, none⟩), .bool sign] w fun r w' => r = .returned (.int .i64 n) ∧ PM 66 pb S e pl 0 w w' := by
  refine of_post fun R hR => ?_
  have HA := Lib.hid (aheadT S i pb pl 0 w hp hi hS)
  have hc := hp.cell
  have HPA := Lib.hid hp
  have hb := blanks_le' S hi
  clear hp
  have HM := fun w => Lib.hid (Tryz.strings_HasPrefix (S.extract (blanks (tl S) i) S.size) ⟨#[45]⟩ w)
  have hmp := minus_prefix S (blanks (tl S) i)
  rw [show (⟨#[45]⟩ : ByteArray).data.toList = [45] from rfl, hmp] at HM
  obtain ⟨first, hfirst, he, hfe, h48, hform, hpar⟩ := numAt_parse hn
  clear hn hmp
  generalize blanks (tl S) i = b at *
  have hesz : e ≤ S.size := by
    rw [he]
    by_cases hk : first ≤ S.size
    · exact spanW_le isDig (tl S) first hk
    · exfalso
      have : spanW isDig (tl S) first = first := spanW_stop _ _ _ (atP_out isDig S first (by omega))
      omega
  have hfb : first = b ∨ first = b + 1 := by rw [hfirst]; split <;> omega
  have HPR := fun w => Lib.hid (whole_parse_ok (S.extract b e) n w (by
    have : (S.extract b e).size ≤ S.size := by rw [ByteArray.size_extract]; omega
    omega) (by rw [cut_any]; exact hform) (by rw [cut_any]; exact hpar))
  have HE := Lib.hid he
  clear hform hpar he
  have HD := fun (c : UInt8) w => Lib.hid (digitT c w)
  have g1 : (b : Int) ≤ S.size := by omega
  have g2 : (S.size : Int) ≤ 100000 := by omega
  have hfl : first < S.size := by omega
  have H48 : Hid (decide ((first : Int) + 1 < e) = true → ((S[first].toNat : Int) == 48) = false) := Lib.hid fun hk => by
    have hk : first + 1 < e := by have := of_decide_eq_true hk; omega
    have : ¬ (tl S)[first]? = some 48 := fun h => h48 ⟨hk, h⟩
    rw [tl_get S first hfl] at this
    simp only [beq_eq_false_iff_ne]
    intro hz
    exact this (congrArg some (UInt8.toNat_inj.1 (by show S[first].toNat = 48; omega)))
  clear h48
  -- the loop and what stands behind it, wherever the number begins
  have hcase : (sign = false ∧ first = b) ∨ (sign = true ∧ decide ((tl S)[b]? = some 45) = false ∧ first = b) ∨ (sign = true ∧ decide ((tl S)[b]? = some 45) = true ∧ first = b + 1) := by
    cases sign with
    | false => exact .inl ⟨rfl, by rw [hfirst]; simp⟩
    | true =>
      by_cases hx : (tl S)[b]? = some 45
      · exact .inr (.inr ⟨rfl, decide_eq_true hx, by rw [hfirst, if_pos ⟨rfl, hx⟩]⟩)
      · exact .inr (.inl ⟨rfl, decide_eq_false hx, by rw [hfirst, if_neg (fun h => hx h.2)]⟩)
  clear hfirst
  generalize decide ((tl S)[b]? = some 45) = mb at *
  have hlast : decide ((first : Int) + 1 < e) = true ∨ decide ((first : Int) + 1 < e) = false := by cases decide ((first : Int) + 1 < (e : Int)) <;> simp
  have HFE := Lib.hid hfe
  clear hfe
  rcases hcase with ⟨rfl, rfl⟩ | ⟨rfl, rfl, rfl⟩ | ⟨rfl, rfl, hfb1⟩
  all_goals
    go_enter Tryz.func96, Tryz.ntmps96
    go_wp2_with (first
      | (go_at_call 14; refine HA.out.mono ?_; rintro r w ⟨rfl, rfl⟩)
      | (go_at_call 92; refine (HM _).out.mono ?_; rintro r w ⟨rfl, hw⟩; obtain rfl := hw))
    go_loopw [7] (fun iv wr => ∃ j : Nat, iv = .int .i64 j ∧ first ≤ j ∧ j ≤ S.size ∧ Hid (spanW isDig (tl S) first = spanW isDig (tl S) j) ∧ wr = w) (fun iv _ => S.size - (intOf iv).toNat)
    case atStart => exact ⟨first, by first | rfl | (rw [hfb1]; go_num), Nat.le_refl _, by omega, Lib.hid rfl, rfl⟩
    case round =>
      obtain ⟨j, rfl, hbj, hj, HB, rfl⟩ := hrel
      by_cases hjl : j < S.size
      · have HAJ := Lib.hid (atP_in isDig S j hjl)
        have HN : Hid (atP isDig (tl S) j = true → spanW isDig (tl S) first = spanW isDig (tl S) (j + 1)) := Lib.hid fun h => HB.out.trans (spanW_step _ _ _ h)
        have HZ : Hid (atP isDig (tl S) j = false → e = j) := Lib.hid fun h => HE.out.trans (HB.out.trans (spanW_stop _ _ _ h))
        have HDJ := fun w => Lib.hid (HD S[j] w).out
        clear HB HD
        cases hg : isDig S[j]
        · rw [hg] at HAJ HDJ
          obtain rfl : e = j := HZ.out HAJ.out
          clear hg HN HZ HAJ
          go_wp2_with (go_at_call 91; refine (HDJ _).out.mono ?_; rintro r w ⟨rfl, hw⟩; obtain rfl := hw)
          rcases hlast with hl | hl
          · have h48 := H48.out hl
            have hl' : (first : Int) + 1 < e := of_decide_eq_true hl
            try (subst hfb1; have hl2 : (b : Int) + 1 + 1 < e := by omega)
            clear H48 hl
            go_wp2_with (go_at_call 127; refine (HPR _).out.mono ?_; rintro r w1 ⟨rfl, hx⟩; have HX := Lib.hid hx; have HPB := Lib.hid (HPA.out.on hx); have hc1 := HPB.out.cell; have hfz := HPB.out.frozen 1; clear hx hc)
            exact hR.out _ _ ⟨rfl, PM.set (Keeps.of_ext HX.out) HPB.out e⟩
          · have hl' : ¬ (first : Int) + 1 < e := of_decide_eq_false hl
            try (subst hfb1; have hl2 : ¬ (b : Int) + 1 + 1 < e := by omega)
            clear H48 hl
            go_wp2_with (go_at_call 127; refine (HPR _).out.mono ?_; rintro r w1 ⟨rfl, hx⟩; have HX := Lib.hid hx; have HPB := Lib.hid (HPA.out.on hx); have hc1 := HPB.out.cell; have hfz := HPB.out.frozen 1; clear hx hc)
            exact hR.out _ _ ⟨rfl, PM.set (Keeps.of_ext HX.out) HPB.out e⟩
        · rw [hg] at HAJ HDJ
          have HS := Lib.hid (HN.out HAJ.out)
          clear hg HN HZ HAJ
          go_wp2_with (go_at_call 91; refine (HDJ _).out.mono ?_; rintro r w ⟨rfl, hw⟩; obtain rfl := hw)
          go_roundw
          case rel => exact ⟨j + 1, by go_num, by omega, hjl, HS, trivial⟩
          case measure => simp [intOf]; omega
      · obtain rfl : e = j := HE.out.trans (HB.out.trans (spanW_stop _ _ _ (atP_out isDig S j hjl)))
        clear HB HD
        go_wp2_with fail
        rcases hlast with hl | hl
        · have h48 := H48.out hl
          have hl' : (first : Int) + 1 < e := of_decide_eq_true hl
          try (subst hfb1; have hl2 : (b : Int) + 1 + 1 < e := by omega)
          clear H48 hl
          go_wp2_with (go_at_call 127; refine (HPR _).out.mono ?_; rintro r w1 ⟨rfl, hx⟩; have HX := Lib.hid hx; have HPB := Lib.hid (HPA.out.on hx); have hc1 := HPB.out.cell; have hfz := HPB.out.frozen 1; clear hx hc)
          exact hR.out _ _ ⟨rfl, PM.set (Keeps.of_ext HX.out) HPB.out e⟩
        · have hl' : ¬ (first : Int) + 1 < e := of_decide_eq_false hl
          try (subst hfb1; have hl2 : ¬ (b : Int) + 1 + 1 < e := by omega)
          clear H48 hl
          go_wp2_with (go_at_call 127; refine (HPR _).out.mono ?_; rintro r w1 ⟨rfl, hx⟩; have HX := Lib.hid hx; have HPB := Lib.hid (HPA.out.on hx); have hc1 := HPB.out.cell; have hfz := HPB.out.frozen 1; clear hx hc)
          exact hR.out _ _ ⟨rfl, PM.set (Keeps.of_ext HX.out) HPB.out e⟩
end Go.Proofs.YtnpaikdaogikcaaGreatDoor

/- How values, expressions, isos, terms and definitions lie in memory. -/
namespace Go.Proofs.YtnpaikdaogikcaaGreatDoor
set_option maxRecDepth 100000
open Go.RowKit
set_option linter.unusedVariables false
set_option linter.unusedSimpArgs false

inductive All2 {α p : Type} (R : α → p → Prop) : List α → List p → Prop where
  | nil : All2 R [] []
  | cons {a b l m} (h : R a b) (t : All2 R l m) : All2 R (a :: l) (b :: m)
theorem All2.length {α β : Type} {R : α → β → Prop} {l : List α} {m : List β} (h : All2 R l m) : l.length = m.length := by induction h <;> simp_all
theorem All2.imp {α β : Type} {R S : α → β → Prop} {l : List α} {m : List β} (h : All2 R l m) (hi : ∀ a b, R a b → S a b) : All2 S l m := by
  induction h with
  | nil => exact .nil
  | cons h _ ih => exact .cons (hi _ _ h) ih
theorem All2.append {α β : Type} {R : α → β → Prop} {l l' : List α} {m m' : List β} (h : All2 R l m) (h' : All2 R l' m') : All2 R (l ++ l') (m ++ m') := by
  induction h with
  | nil => exact h'
  | cons h _ ih => exact .cons h ih
theorem All2.get {α β : Type} {R : α → β → Prop} {l : List α} {m : List β} (h : All2 R l m) {i : Nat} (hi : i < l.length) : ∃ b, m[i]? = some b ∧ R l[i] b := by
  induction h generalizing i with
  | nil => simp at hi
  | cons h t ih =>
    cases i with
    | zero => exact ⟨_, rfl, h⟩
    | succ i => simpa using ih (by simpa using hi)
theorem All2.take {α β : Type} {R : α → β → Prop} {l : List α} {m : List β} (h : All2 R l m) (n : Nat) : All2 R (l.take n) (m.take n) := by
  induction h generalizing n with
  | nil => simp; exact .nil
  | cons h t ih => cases n <;> simp; exact .nil; exact .cons h (ih _)
theorem All2.drop {α β : Type} {R : α → β → Prop} {l : List α} {m : List β} (h : All2 R l m) (n : Nat) : All2 R (l.drop n) (m.drop n) := by
  induction h generalizing n with
  | nil => simp; exact .nil
  | cons h t ih => cases n; simp; exact .cons h t; simpa using ih _

/-- A slice's cells, in a block that is so. -/
def CellsFrom (p : Nat → Prop) (w : World) (A : Option Addr) (cs : List Value) : Prop :=
  cs ≠ [] → ∃ b o, A = some ⟨b, o, none⟩ ∧ p b ∧ ∀ k u, cs[k]? = some u → w.cell? ⟨b, o + k, none⟩ = some u
abbrev Fr (n : Nat) : Nat → Prop := fun b => n ≤ b
abbrev Any : Nat → Prop := fun _ => True
theorem CellsFrom.nil (p : Nat → Prop) (w : World) (A : Option Addr) : CellsFrom p w A [] := fun h => absurd rfl h
theorem CellsFrom.at_ {p : Nat → Prop} {w : World} {A : Option Addr} {cs : List Value} (h : CellsFrom p w A cs) : CellsAt w A cs := fun hn =>
  let ⟨b, o, e, _, hc⟩ := h hn
  ⟨b, o, e, hc⟩
theorem CellsFrom.ext {p : Nat → Prop} {w w' : World} {A : Option Addr} {cs : List Value} (h : CellsFrom p w A cs) (hx : Ext w w') : CellsFrom p w' A cs := fun hn =>
  let ⟨b, o, e, hb, hc⟩ := h hn
  ⟨b, o, e, hb, fun k u hk => hx.cell' (hc k u hk)⟩
theorem CellsFrom.keeps {p : Nat → Prop} {S : Nat → Prop} {w w' : World} {A : Option Addr} {cs : List Value} (h : CellsFrom p w A cs) (hx : Keeps S w w') (hs : ∀ b, p b → ¬ S b) : CellsFrom p w' A cs := fun hn =>
  let ⟨b, o, e, hb, hc⟩ := h hn
  ⟨b, o, e, hb, fun k u hk => hx.cell (hs b hb) (hc k u hk)⟩
theorem CellsFrom.mono {p q : Nat → Prop} {w : World} {A : Option Addr} {cs : List Value} (h : CellsFrom p w A cs) (hg : ∀ b, p b → q b) : CellsFrom q w A cs := fun hn =>
  let ⟨b, o, e, hb, hc⟩ := h hn
  ⟨b, o, e, hg b hb, hc⟩
theorem CellsFrom.lt {p : Nat → Prop} {w : World} {A : Option Addr} {cs : List Value} (h : CellsFrom p w A cs) : CellsFrom (fun b => p b ∧ b < w.heap.size) w A cs := fun hn => by
  obtain ⟨b, o, e, hb, hc⟩ := h hn
  refine ⟨b, o, e, ⟨hb, ?_⟩, hc⟩
  cases cs with
  | nil => exact absurd rfl hn
  | cons u l => exact lt_of_cell (hc 0 u rfl)
theorem cellsFrom_own {w : World} {base : Nat} {e : TypeId} {size n : Nat} {A : Option Addr} {c : Nat} {cs : List Value} (h : w.ownsRow base e size (.slice A n c) n cs) : CellsFrom (Fr base) w A cs := fun hn => by
  obtain ⟨b, o, rfl, hc⟩ := cellsAt_of_own h hn
  refine ⟨b, o, rfl, ?_, hc⟩
  rcases h.2 with ⟨h1, h2⟩ | ⟨g, cap, cur, hv, hb, _⟩
  · injection h1 with h1; cases h1
  · injection hv with hv; cases hv; exact hb
theorem cellsFrom_new (w : World) (cs : List Value) (t : TypeId) : CellsFrom (fun b => b = w.heap.size) (w.alloc (.cells cs.toArray t)) (some ⟨w.heap.size, 0, none⟩) cs := fun hn => by
  obtain ⟨b, o, e, hc⟩ := cellsAt_new w cs t hn
  cases e
  exact ⟨_, _, rfl, rfl, hc⟩
/-- Rows of k cells each, one behind the other. -/
def Rows2 {α : Type} (w : World) (R : α → List Value → Prop) (A : Option Addr) (l : List α) : Prop := ∃ ics, All2 R l ics ∧ CellsAt w A ics.flatten
theorem flatten_len {k : Nat} {ics : List (List Value)} (h : ∀ c ∈ ics, c.length = k) : ics.flatten.length = k * ics.length := by
  induction ics with
  | nil => simp
  | cons c l ih => simp [h c (by simp), ih fun c hc => h c (by simp [hc]), Nat.mul_succ]; omega
theorem flatten_get {k : Nat} {ics : List (List Value)} (h : ∀ c ∈ ics, c.length = k) {i j : Nat} {c : List Value} (hi : ics[i]? = some c) (hj : j < k) : ics.flatten[k * i + j]? = c[j]? := by
  induction ics generalizing i with
  | nil => simp at hi
  | cons d l ih =>
    have hd := h d (by simp)
    cases i with
    | zero =>
      simp at hi; subst hi
      simp [List.getElem?_append, hd, hj]
    | succ i =>
      have := ih (fun c hc => h c (by simp [hc])) (by simpa using hi)
      rw [List.flatten_cons, List.getElem?_append_right (by rw [hd, Nat.mul_succ]; omega), ← this]
      congr 1; rw [hd, Nat.mul_succ]; omega

mutual
def RdV (p : Nat → Prop) (w : World) : V → List Value → Prop
  | .mk k b n s items keys, cs => ∃ A c B d ics, cs = [.int .i64 k, .bool b, .int .i64 n, sv s, .slice A items.length c, .slice B keys.length d] ∧ items.length ≤ c ∧ keys.length ≤ d ∧ RdVs p w items ics ∧ CellsFrom p w A ics.flatten ∧ CellsFrom p w B (keys.map sv)
def RdVs (p : Nat → Prop) (w : World) : List V → List (List Value) → Prop
  | [], ics => ics = []
  | v :: l, ics => ∃ c r, ics = c :: r ∧ RdV p w v c ∧ RdVs p w l r
end
theorem RdVs_iff (p : Nat → Prop) (w : World) (l : List V) (ics : List (List Value)) : RdVs p w l ics ↔ All2 (RdV p w) l ics := by
  induction l generalizing ics with
  | nil => simp only [RdVs]; exact ⟨fun h => h ▸ .nil, fun h => by cases h; rfl⟩
  | cons v l ih =>
    simp only [RdVs]
    exact ⟨fun ⟨c, r, e, h, t⟩ => e ▸ .cons h ((ih r).1 t), fun h => by cases h with | cons h t => exact ⟨_, _, rfl, h, (ih _).2 t⟩⟩
mutual
theorem RdV.move {p q : Nat → Prop} {w w' : World} (hx : ∀ A cs, CellsFrom p w A cs → CellsFrom q w' A cs) : ∀ (v : V) (cs : List Value), RdV p w v cs → RdV q w' v cs
  | .mk k b n s items keys, cs, h => by
    simp only [RdV] at h ⊢
    obtain ⟨A, c, B, d, ics, e, h1, h2, h3, h4, h5⟩ := h
    exact ⟨A, c, B, d, ics, e, h1, h2, RdVs.move hx items ics h3, hx _ _ h4, hx _ _ h5⟩
theorem RdVs.move {p q : Nat → Prop} {w w' : World} (hx : ∀ A cs, CellsFrom p w A cs → CellsFrom q w' A cs) : ∀ (l : List V) (ics : List (List Value)), RdVs p w l ics → RdVs q w' l ics
  | [], ics, h => by simpa only [RdVs] using h
  | v :: l, ics, h => by
    simp only [RdVs] at h ⊢
    obtain ⟨c, r, e, h1, h2⟩ := h
    exact ⟨c, r, e, RdV.move hx v c h1, RdVs.move hx l r h2⟩
end
theorem RdV.on {p : Nat → Prop} {w w' : World} (hx : Ext w w') (v : V) (cs : List Value) (h : RdV p w v cs) : RdV p w' v cs := RdV.move (fun _ _ h => h.ext hx) v cs h
theorem RdV.keeps {p : Nat → Prop} {S : Nat → Prop} {w w' : World} (hx : Keeps S w w') (hs : ∀ b, p b → ¬ S b) (v : V) (cs : List Value) (h : RdV p w v cs) : RdV p w' v cs := RdV.move (fun _ _ h => h.keeps hx hs) v cs h
theorem RdV.mono {p q : Nat → Prop} {w : World} (hg : ∀ b, p b → q b) (v : V) (cs : List Value) (h : RdV p w v cs) : RdV q w v cs := RdV.move (fun _ _ h => h.mono hg) v cs h
theorem RdV.lt {p : Nat → Prop} {w : World} (v : V) (cs : List Value) (h : RdV p w v cs) : RdV (fun b => p b ∧ b < w.heap.size) w v cs := RdV.move (fun _ _ h => h.lt) v cs h
theorem RdV.len {p : Nat → Prop} {w : World} {v : V} {cs : List Value} (h : RdV p w v cs) : cs.length = 6 := by
  cases v; simp only [RdV] at h; obtain ⟨_, _, _, _, _, rfl, _⟩ := h; rfl

mutual
def RdE (p : Nat → Prop) (w : World) : E → List Value → Prop
  | .mk op name lit args, cs => ∃ vs A c ics, cs = sv op :: sv name :: (vs ++ [.slice A args.length c]) ∧ RdV p w lit vs ∧ args.length ≤ c ∧ RdEs p w args ics ∧ CellsFrom p w A ics.flatten
def RdEs (p : Nat → Prop) (w : World) : List E → List (List Value) → Prop
  | [], ics => ics = []
  | v :: l, ics => ∃ c r, ics = c :: r ∧ RdE p w v c ∧ RdEs p w l r
end
theorem RdEs_iff (p : Nat → Prop) (w : World) (l : List E) (ics : List (List Value)) : RdEs p w l ics ↔ All2 (RdE p w) l ics := by
  induction l generalizing ics with
  | nil => simp only [RdEs]; exact ⟨fun h => h ▸ .nil, fun h => by cases h; rfl⟩
  | cons v l ih =>
    simp only [RdEs]
    exact ⟨fun ⟨c, r, e, h, t⟩ => e ▸ .cons h ((ih r).1 t), fun h => by cases h with | cons h t => exact ⟨_, _, rfl, h, (ih _).2 t⟩⟩
mutual
theorem RdE.move {p q : Nat → Prop} {w w' : World} (hx : ∀ A cs, CellsFrom p w A cs → CellsFrom q w' A cs) : ∀ (v : E) (cs : List Value), RdE p w v cs → RdE q w' v cs
  | .mk op name lit args, cs, h => by
    simp only [RdE] at h ⊢
    obtain ⟨vs, A, c, ics, e, h1, h2, h3, h4⟩ := h
    exact ⟨vs, A, c, ics, e, RdV.move hx _ _ h1, h2, RdEs.move hx args ics h3, hx _ _ h4⟩
theorem RdEs.move {p q : Nat → Prop} {w w' : World} (hx : ∀ A cs, CellsFrom p w A cs → CellsFrom q w' A cs) : ∀ (l : List E) (ics : List (List Value)), RdEs p w l ics → RdEs q w' l ics
  | [], ics, h => by simpa only [RdEs] using h
  | v :: l, ics, h => by
    simp only [RdEs] at h ⊢
    obtain ⟨c, r, e, h1, h2⟩ := h
    exact ⟨c, r, e, RdE.move hx v c h1, RdEs.move hx l r h2⟩
end
theorem RdE.on {p : Nat → Prop} {w w' : World} (hx : Ext w w') (v : E) (cs : List Value) (h : RdE p w v cs) : RdE p w' v cs := RdE.move (fun _ _ h => h.ext hx) v cs h
theorem RdE.keeps {p : Nat → Prop} {S : Nat → Prop} {w w' : World} (hx : Keeps S w w') (hs : ∀ b, p b → ¬ S b) (v : E) (cs : List Value) (h : RdE p w v cs) : RdE p w' v cs := RdE.move (fun _ _ h => h.keeps hx hs) v cs h
theorem RdE.mono {p q : Nat → Prop} {w : World} (hg : ∀ b, p b → q b) (v : E) (cs : List Value) (h : RdE p w v cs) : RdE q w v cs := RdE.move (fun _ _ h => h.mono hg) v cs h
theorem RdE.lt {p : Nat → Prop} {w : World} (v : E) (cs : List Value) (h : RdE p w v cs) : RdE (fun b => p b ∧ b < w.heap.size) w v cs := RdE.move (fun _ _ h => h.lt) v cs h
theorem RdE.len {p : Nat → Prop} {w : World} {v : E} {cs : List Value} (h : RdE p w v cs) : cs.length = 9 := by
  cases v; simp only [RdE] at h; obtain ⟨_, _, _, _, rfl, h, _⟩ := h; simp [h.len]

def cellsI (x : I) : List Value := [sv x.name, .int .i64 x.n, sv x.key]

mutual
def RdT (p : Nat → Prop) (w : World) : T → List Value → Prop
  | .mk kind name lit keys weights parts exprs isos, cs => ∃ vs K kc W wc A c X xc Z zc ics xcs,
      cs = .int .i64 kind :: sv name :: (vs ++ [.slice K keys.length kc, .slice W weights.length wc, .slice A parts.length c, .slice X exprs.length xc, .slice Z isos.length zc]) ∧
      RdV p w lit vs ∧ keys.length ≤ kc ∧ weights.length ≤ wc ∧ parts.length ≤ c ∧ exprs.length ≤ xc ∧ isos.length ≤ zc ∧
      CellsFrom p w K (keys.map sv) ∧ CellsFrom p w W (weights.map I64) ∧ RdTs p w parts ics ∧ CellsFrom p w A ics.flatten ∧ RdEs p w exprs xcs ∧ CellsFrom p w X xcs.flatten ∧ CellsFrom p w Z (isos.flatMap cellsI)
def RdTs (p : Nat → Prop) (w : World) : List T → List (List Value) → Prop
  | [], ics => ics = []
  | v :: l, ics => ∃ c r, ics = c :: r ∧ RdT p w v c ∧ RdTs p w l r
end
theorem RdTs_iff (p : Nat → Prop) (w : World) (l : List T) (ics : List (List Value)) : RdTs p w l ics ↔ All2 (RdT p w) l ics := by
  induction l generalizing ics with
  | nil => simp only [RdTs]; exact ⟨fun h => h ▸ .nil, fun h => by cases h; rfl⟩
  | cons v l ih =>
    simp only [RdTs]
    exact ⟨fun ⟨c, r, e, h, t⟩ => e ▸ .cons h ((ih r).1 t), fun h => by cases h with | cons h t => exact ⟨_, _, rfl, h, (ih _).2 t⟩⟩
mutual
theorem RdT.move {p q : Nat → Prop} {w w' : World} (hx : ∀ A cs, CellsFrom p w A cs → CellsFrom q w' A cs) : ∀ (v : T) (cs : List Value), RdT p w v cs → RdT q w' v cs
  | .mk kind name lit keys weights parts exprs isos, cs, h => by
    simp only [RdT] at h ⊢
    obtain ⟨vs, K, kc, W, wc, A, c, X, xc, Z, zc, ics, xcs, e, h1, h2, h3, h4, h5, h6, h7, h8, h9, ha, hb, hc, hd⟩ := h
    exact ⟨vs, K, kc, W, wc, A, c, X, xc, Z, zc, ics, xcs, e, RdV.move hx _ _ h1, h2, h3, h4, h5, h6, hx _ _ h7, hx _ _ h8, RdTs.move hx parts ics h9, hx _ _ ha, RdEs.move hx _ _ hb, hx _ _ hc, hx _ _ hd⟩
theorem RdTs.move {p q : Nat → Prop} {w w' : World} (hx : ∀ A cs, CellsFrom p w A cs → CellsFrom q w' A cs) : ∀ (l : List T) (ics : List (List Value)), RdTs p w l ics → RdTs q w' l ics
  | [], ics, h => by simpa only [RdTs] using h
  | v :: l, ics, h => by
    simp only [RdTs] at h ⊢
    obtain ⟨c, r, e, h1, h2⟩ := h
    exact ⟨c, r, e, RdT.move hx v c h1, RdTs.move hx l r h2⟩
end
theorem RdT.on {p : Nat → Prop} {w w' : World} (hx : Ext w w') (v : T) (cs : List Value) (h : RdT p w v cs) : RdT p w' v cs := RdT.move (fun _ _ h => h.ext hx) v cs h
theorem RdT.keeps {p : Nat → Prop} {S : Nat → Prop} {w w' : World} (hx : Keeps S w w') (hs : ∀ b, p b → ¬ S b) (v : T) (cs : List Value) (h : RdT p w v cs) : RdT p w' v cs := RdT.move (fun _ _ h => h.keeps hx hs) v cs h
theorem RdT.mono {p q : Nat → Prop} {w : World} (hg : ∀ b, p b → q b) (v : T) (cs : List Value) (h : RdT p w v cs) : RdT q w v cs := RdT.move (fun _ _ h => h.mono hg) v cs h
theorem RdT.lt {p : Nat → Prop} {w : World} (v : T) (cs : List Value) (h : RdT p w v cs) : RdT (fun b => p b ∧ b < w.heap.size) w v cs := RdT.move (fun _ _ h => h.lt) v cs h
theorem RdT.len {p : Nat → Prop} {w : World} {v : T} {cs : List Value} (h : RdT p w v cs) : cs.length = 13 := by
  cases v; simp only [RdT] at h; obtain ⟨vs, _, _, _, _, _, _, _, _, _, _, _, _, rfl, h, _⟩ := h; simp [h.len]
end Go.Proofs.YtnpaikdaogikcaaGreatDoor
