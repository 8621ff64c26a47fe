/- term: a byte's kinds, the place behind blanks, words, signs. -/
import Derived.Test.YtnpaikdaogikcaaGreatDoorG04
import Derived.Test.YtnpaikdaogikcaaGreatDoorG03

namespace Go.Proofs.YtnpaikdaogikcaaGreatDoor
set_option maxRecDepth 100000
open Go.RowKit
set_option linter.unusedVariables false
set_option linter.unusedSimpArgs false

theorem letterT (c : UInt8) (w : World) : Calls Tryz.prog 50 #[.int .u8 c.toNat] w fun e w' => e = .returned (.bool (isLet c)) ∧ w' = w := by
  refine of_post fun R hR => ?_
  rcases let_iv c with ⟨hc, h1⟩ | ⟨hc, h1, h2⟩ | ⟨hc, h1, h2⟩ | ⟨hc, h1, h2⟩ | ⟨hc, h1⟩
  all_goals
    have HC := Lib.hid hc
    clear hc
    go_enter Tryz.func50, Tryz.ntmps50
    go_wp2_with fail
    exact hR.out _ _ ⟨ret_bb rfl (by rw [HC.out]; first | done | rfl | (simp; omega)), rfl⟩
theorem digitT (c : UInt8) (w : World) : Calls Tryz.prog 91 #[.int .u8 c.toNat] w fun e w' => e = .returned (.bool (isDig c)) ∧ w' = w := by
  refine of_post fun R hR => ?_
  rcases dig_iv c with ⟨hc, h1⟩ | ⟨hc, h1, h2⟩ | ⟨hc, h1⟩
  all_goals
    have HC := Lib.hid hc
    clear hc
    go_enter Tryz.func91, Tryz.ntmps91
    go_wp2_with fail
    exact hR.out _ _ ⟨ret_bb rfl (by rw [HC.out]; first | done | rfl | (simp; omega)), rfl⟩
theorem goesT (c : UInt8) (w : World) : Calls Tryz.prog 51 #[.int .u8 c.toNat] w fun e w' => e = .returned (.bool (isGo c)) ∧ w' = w := by
  refine of_post fun R hR => ?_
  have HL := fun w => Lib.hid (letterT c w)
  have HD := fun w => Lib.hid (digitT c w)
  have HU := Lib.hid (u8_eq c 95)
  have HG : Hid (isGo c = (isLet c || isDig c || c == 95)) := Lib.hid rfl
  generalize isGo c = g at *
  generalize isLet c = a at *
  generalize isDig c = b at *
  go_enter Tryz.func51, Tryz.ntmps51
  cases a <;> cases b
  all_goals
    go_wp2_with (first
      | (go_at_call 50; refine (HL _).out.mono ?_; rintro e w1 ⟨rfl, rfl⟩)
      | (go_at_call 91; refine (HD _).out.mono ?_; rintro e w1 ⟨rfl, rfl⟩))
    exact hR.out _ _ ⟨ret_bb rfl (by rw [HG.out]; first | done | rfl | (rw [HU.out]; rfl) | simp), rfl⟩
set_option maxHeartbeats 1000000 in
theorem aheadT (S : ByteArray) (i : Nat) (pb : Nat) (pl c : Int) (w : World) (hp : PA 66 w pb S i pl c) (hi : i ≤ S.size) (hS : S.size ≤ 100000) :
    Calls Tryz.prog 14 #[.pointer (some ⟨pb, 0, none⟩)] w fun e w' => e = .returned (.int .i64 (blanks (tl S) i)) ∧ w' = w := by
  refine of_post fun R hR => ?_
  have hc := hp.cell
  clear hp
  have HI := fun (b : UInt8) w => Lib.hid (bl_index Tryz.prog 25 (fun s c w => Tryz.strings_IndexByte s c w) b w)
  go_enter Tryz.func14, Tryz.ntmps14
  go_wp2_with fail
  go_loopw [3] (fun iv wr => ∃ j : Nat, iv = .int .i64 j ∧ j ≤ S.size ∧ Hid (blanks (tl S) i = blanks (tl S) j) ∧ wr = w) (fun iv _ => S.size - (intOf iv).toNat)
  case atStart => exact ⟨i, rfl, hi, Lib.hid rfl, rfl⟩
  case round =>
    obtain ⟨j, rfl, hj, HB, rfl⟩ := hrel
    by_cases hlt : j < S.size
    · have HA := Lib.hid (atP_in isBl S j hlt)
      have HN : Hid (atP isBl (tl S) j = true → blanks (tl S) i = blanks (tl S) (j + 1)) := Lib.hid fun h => HB.out.trans (spanW_step _ _ _ h)
      have HZ : Hid (atP isBl (tl S) j = false → blanks (tl S) i = j) := Lib.hid fun h => HB.out.trans (spanW_stop _ _ _ h)
      have HIJ := fun w => Lib.hid (HI S[j] w).out
      clear HB HI
      cases hb : isBl S[j]
      · rw [hb] at HA HIJ
        have HE := Lib.hid (HZ.out HA.out)
        clear hb HN HZ HA
        go_wp2_with (go_at_call 25; refine (HIJ _).out.mono ?_; rintro e w1 ⟨n, rfl, hn, rfl⟩; rw [if_neg (by decide)] at hn; subst hn)
        exact hR.out _ _ ⟨ret_i rfl (by rw [HE.out]), rfl⟩
      · rw [hb] at HA HIJ
        have HE := Lib.hid (HN.out HA.out)
        clear hb HN HZ HA
        go_wp2_with (go_at_call 25; refine (HIJ _).out.mono ?_; rintro e w1 ⟨n, rfl, hn, rfl⟩; rw [if_pos rfl] at hn)
        go_roundw
        case rel => exact ⟨j + 1, by go_num, hlt, HE, trivial⟩
        case measure => simp [intOf]; omega
    · have HE : Hid (blanks (tl S) i = j) := Lib.hid (HB.out.trans (spanW_stop _ _ _ (atP_out isBl S j hlt)))
      clear HB HI
      go_wp2_with fail
      exact hR.out _ _ ⟨ret_i rfl (by rw [HE.out]), rfl⟩
end Go.Proofs.YtnpaikdaogikcaaGreatDoor

/- The terms' parser: words and signs that follow. -/
namespace Go.Proofs.YtnpaikdaogikcaaGreatDoor
set_option maxRecDepth 100000
open Go.RowKit
set_option linter.unusedVariables false
set_option linter.unusedSimpArgs false

theorem tl_drop (S : ByteArray) (b : Nat) : (S.extract b S.size).data.toList = (tl S).drop b := by
  rw [cut_any]; unfold cut
  rw [List.take_of_length_le]
  rw [List.length_drop, tl_len]; exact Nat.le_refl _
theorem ret_sv {v : Value} {S : ByteArray} {l : Bs} (hv : v = .string S) (h : tl S = l) : Ending.returned v = .returned (sv l) := by subst hv; subst h; rfl
theorem blanks_le' (S : ByteArray) {i : Nat} (hi : i ≤ S.size) : blanks (tl S) i ≤ S.size := blanks_le (tl S) i hi

set_option maxHeartbeats 1000000 in
theorem wordT (S : ByteArray) (i pb : Nat) (pl c : Int) (w : World) (hp : PA 66 w pb S i pl c) (hi : i ≤ S.size) (hS : S.size ≤ 100000) :
    Calls Tryz.prog 26 #[.pointer (some ⟨pb, 0, none⟩)] w fun e w' => e = .returned (sv (word (tl S) i).1) ∧ w' = w := by
  refine of_post fun R hR => ?_
  have HA := Lib.hid (aheadT S i pb pl c w hp hi hS)
  have hc := hp.cell
  have hb := blanks_le' S hi
  have HW : Hid (word (tl S) i = if atP isLet (tl S) (blanks (tl S) i) then (cut (tl S) (blanks (tl S) i) (spanW isGo (tl S) (blanks (tl S) i)), spanW isGo (tl S) (blanks (tl S) i)) else ([], i)) := Lib.hid rfl
  clear hp
  generalize word (tl S) i = W at *
  generalize blanks (tl S) i = b at *
  by_cases hlt : b < S.size
  · have HAT := Lib.hid (atP_in isLet S b hlt)
    have HL := fun w => Lib.hid (letterT S[b] w)
    have hne : ((b : Int) == (S.size : Int)) = false := by simp; omega
    cases hl : isLet S[b]
    · rw [hl] at HAT HL
      have HE : Hid (W.1 = []) := Lib.hid (by rw [HW.out, HAT.out]; rfl)
      clear hl HAT HW
      go_enter Tryz.func26, Tryz.ntmps26
      go_wp2_with (first
        | (go_at_call 14; refine HA.out.mono ?_; rintro e w ⟨rfl, rfl⟩)
        | (go_at_call 50; refine (HL _).out.mono ?_; rintro e w ⟨rfl, rfl⟩))
      exact hR.out _ _ ⟨ret_sv rfl (by rw [HE.out]), rfl⟩
    · rw [hl] at HAT HL
      have HX : Hid (W.1 = cut (tl S) b (spanW isGo (tl S) b)) := Lib.hid (by rw [HW.out, HAT.out]; rfl)
      clear hl HAT HW
      have HG := fun (c : UInt8) w => Lib.hid (goesT c w)
      go_enter Tryz.func26, Tryz.ntmps26
      go_wp2_with (first
        | (go_at_call 14; refine HA.out.mono ?_; rintro e w ⟨rfl, rfl⟩)
        | (go_at_call 50; refine (HL _).out.mono ?_; rintro e w ⟨rfl, rfl⟩))
      go_loopw [4] (fun iv wr => ∃ j : Nat, iv = .int .i64 j ∧ b ≤ j ∧ j ≤ S.size ∧ Hid (spanW isGo (tl S) b = spanW isGo (tl S) j) ∧ wr = w) (fun iv _ => S.size - (intOf iv).toNat)
      case atStart => exact ⟨b, rfl, Nat.le_refl _, hb, Lib.hid rfl, rfl⟩
      case round =>
        obtain ⟨j, rfl, hbj, hj, HB, rfl⟩ := hrel
        by_cases hjl : j < S.size
        · have HAJ := Lib.hid (atP_in isGo S j hjl)
          have HN : Hid (atP isGo (tl S) j = true → spanW isGo (tl S) b = spanW isGo (tl S) (j + 1)) := Lib.hid fun h => HB.out.trans (spanW_step _ _ _ h)
          have HZ : Hid (atP isGo (tl S) j = false → spanW isGo (tl S) b = j) := Lib.hid fun h => HB.out.trans (spanW_stop _ _ _ h)
          have HGJ := fun w => Lib.hid (HG S[j] w).out
          clear HB HG
          cases hg : isGo S[j]
          · rw [hg] at HAJ HGJ
            have HE := Lib.hid (HZ.out HAJ.out)
            clear hg HN HZ HAJ
            go_wp2_with (go_at_call 51; refine (HGJ _).out.mono ?_; rintro e w ⟨rfl, rfl⟩)
            exact hR.out _ _ ⟨ret_sv rfl (by rw [HX.out, HE.out, ← cut_any]), rfl⟩
          · rw [hg] at HAJ HGJ
            have HE := Lib.hid (HN.out HAJ.out)
            clear hg HN HZ HAJ
            go_wp2_with (go_at_call 51; refine (HGJ _).out.mono ?_; rintro e w ⟨rfl, rfl⟩)
            go_roundw
            case rel => exact ⟨j + 1, by go_num, by omega, hjl, HE, trivial⟩
            case measure => simp [intOf]; omega
        · have HE : Hid (spanW isGo (tl S) b = j) := Lib.hid (HB.out.trans (spanW_stop _ _ _ (atP_out isGo S j hjl)))
          clear HB HG
          go_wp2_with fail
          exact hR.out _ _ ⟨ret_sv rfl (by rw [HX.out, HE.out, ← cut_any]), rfl⟩
  · have HAT := Lib.hid (atP_out isLet S b hlt)
    have HE : Hid (W.1 = []) := Lib.hid (by rw [HW.out, HAT.out]; rfl)
    obtain rfl : b = S.size := by omega
    clear HAT HW
    go_enter Tryz.func26, Tryz.ntmps26
    go_wp2_with (first
      | (go_at_call 14; refine HA.out.mono ?_; rintro e w ⟨rfl, rfl⟩))
    exact hR.out _ _ ⟨ret_sv rfl (by rw [HE.out]), rfl⟩

/-- mark: whether a sign follows; a sign: no word. -/
theorem markT_no (S T : ByteArray) (i pb : Nat) (pl c : Int) (w : World) (hp : PA 66 w pb S i pl c) (hi : i ≤ S.size) (hS : S.size ≤ 100000) (h : c ≠ 0 ∨ mark (tl S) i (tl T) = none) :
    Calls Tryz.prog 52 #[.pointer (some ⟨pb, 0, none⟩), .string T] w fun e w' => e = .returned (.bool false) ∧ w' = w := by
  refine of_post fun R hR => ?_
  have HA := Lib.hid (aheadT S i pb pl c w hp hi hS)
  have hc := hp.cell
  have hb := blanks_le' S hi
  clear hp
  have HP := fun w => Lib.hid (Tryz.strings_HasPrefix (S.extract (blanks (tl S) i) S.size) T w)
  by_cases hc0 : c = 0
  · subst hc0
    have hm : mark (tl S) i (tl T) = none := h.resolve_left (fun e => e rfl)
    have hf : Lib.hasPrefix (S.extract (blanks (tl S) i) S.size).data.toList T.data.toList = false := by
      rw [tl_drop]
      unfold mark at hm
      unfold Lib.hasPrefix
      by_cases e : (tl T).isPrefixOf ((tl S).drop (blanks (tl S) i)) = true
      · rw [if_pos e] at hm; cases hm
      · exact Bool.eq_false_iff.2 e
    rw [hf] at HP
    clear hf hm h
    generalize blanks (tl S) i = b at *
    have h1 : (b : Int) ≤ S.size := by omega
    go_enter Tryz.func52, Tryz.ntmps52
    go_wp2_with (first
      | (go_at_call 14; refine HA.out.mono ?_; rintro e w ⟨rfl, rfl⟩)
      | (go_at_call 92; refine (HP _).out.mono ?_; rintro e w ⟨rfl, hw⟩; obtain rfl := hw))
    exact hR.out _ _ ⟨rfl, rfl⟩
  · have hcb : ((c : Int) != 0) = true := by simpa using hc0
    clear h
    generalize blanks (tl S) i = b at *
    go_enter Tryz.func52, Tryz.ntmps52
    go_wp2_with (first
      | (go_at_call 14; refine HA.out.mono ?_; rintro e w ⟨rfl, rfl⟩))
    exact hR.out _ _ ⟨rfl, rfl⟩

theorem prefix_some {S T : ByteArray} {i j : Nat} (hm : mark (tl S) i (tl T) = some j) : Lib.hasPrefix (S.extract (blanks (tl S) i) S.size).data.toList T.data.toList = true ∧ j = blanks (tl S) i + T.size := by
  rw [tl_drop]
  unfold mark at hm
  unfold Lib.hasPrefix
  by_cases e : (tl T).isPrefixOf ((tl S).drop (blanks (tl S) i)) = true
  · rw [if_pos e] at hm; cases hm; exact ⟨e, by rw [tl_len]⟩
  · rw [if_neg e] at hm; cases hm
theorem markT_yes (S T : ByteArray) (i j pb : Nat) (pl : Int) (w : World) (hp : PA 66 w pb S i pl 0) (hi : i ≤ S.size) (hS : S.size ≤ 100000) (hT : 0 < T.size) (hT2 : T.size ≤ 1000)
    (hm : mark (tl S) i (tl T) = some j) (hl : isLet T[0] = false ∨ (word (tl S) i).1 = tl T) :
    Calls Tryz.prog 52 #[.pointer (some ⟨pb, 0, none⟩), .string T] w fun e w' => e = .returned (.bool true) ∧ PM 66 pb S j pl 0 w w' := by
  refine of_post fun R hR => ?_
  have HA := Lib.hid (aheadT S i pb pl 0 w hp hi hS)
  have HWD := Lib.hid (wordT S i pb pl 0 w hp hi hS)
  have hc := hp.cell
  have hfz := hp.frozen 1
  have hb := blanks_le' S hi
  have HPA := Lib.hid hp
  clear hp
  have HP := fun w => Lib.hid (Tryz.strings_HasPrefix (S.extract (blanks (tl S) i) S.size) T w)
  obtain ⟨h1, h2⟩ := prefix_some hm
  rw [h1] at HP
  have HJ := Lib.hid h2
  clear h1 h2 hm
  have h3 : (T.size : Int) ≤ 1000 := by omega
  have h4 : (S.size : Int) ≤ 100000 := by omega
  have HL := fun w => Lib.hid (letterT T[0] w)
  generalize blanks (tl S) i = b at *
  have h5 : (b : Int) ≤ S.size := by omega
  cases hle : isLet T[0]
  · rw [hle] at HL
    clear hl hle
    go_enter Tryz.func52, Tryz.ntmps52
    go_wp2_with (first
      | (go_at_call 14; refine HA.out.mono ?_; rintro e w ⟨rfl, rfl⟩)
      | (go_at_call 92; refine (HP _).out.mono ?_; rintro e w ⟨rfl, hw⟩; obtain rfl := hw)
      | (go_at_call 50; refine (HL _).out.mono ?_; rintro e w ⟨rfl, hw⟩; obtain rfl := hw))
    refine hR.out _ _ ⟨rfl, ?_⟩
    have := PM.set (Keeps.refl _ _) HPA.out (b + T.size)
    rw [HJ.out]; simpa using this
  · rw [hle] at HL
    have hW : (word (tl S) i).1 = tl T := hl.resolve_left (by rw [hle]; simp)
    rw [hW] at HWD
    have hsv : sv (tl T) = .string T := rfl
    rw [hsv] at HWD
    clear hl hle hW hsv
    go_enter Tryz.func52, Tryz.ntmps52
    go_wp2_with (first
      | (go_at_call 14; refine HA.out.mono ?_; rintro e w ⟨rfl, rfl⟩)
      | (go_at_call 26; refine HWD.out.mono ?_; rintro e w ⟨rfl, hw⟩; obtain rfl := hw)
      | (go_at_call 92; refine (HP _).out.mono ?_; rintro e w ⟨rfl, hw⟩; obtain rfl := hw)
      | (go_at_call 50; refine (HL _).out.mono ?_; rintro e w ⟨rfl, hw⟩; obtain rfl := hw))
    refine hR.out _ _ ⟨rfl, ?_⟩
    have := PM.set (Keeps.refl _ _) HPA.out (b + T.size)
    rw [HJ.out]; simpa using this
/-- need: what must follow, where it does. -/
theorem needT (S T : ByteArray) (i j pb : Nat) (pl : Int) (w : World) (hp : PA 66 w pb S i pl 0) (hi : i ≤ S.size) (hS : S.size ≤ 100000) (hT : 0 < T.size) (hT2 : T.size ≤ 1000)
    (hm : mark (tl S) i (tl T) = some j) (hl : isLet T[0] = false ∨ (word (tl S) i).1 = tl T) :
    Calls Tryz.prog 29 #[.pointer (some ⟨pb, 0, none⟩), .string T] w fun e w' => e = .returned (.tuple #[]) ∧ PM 66 pb S j pl 0 w w' := by
  refine of_post fun R hR => ?_
  have HM := Lib.hid (markT_yes S T i j pb pl w hp hi hS hT hT2 hm hl)
  go_enter Tryz.func29, Tryz.ntmps29
  go_wp2_with (go_at_call 52; refine HM.out.mono ?_; rintro e w1 ⟨rfl, hx⟩; have HX := Lib.hid hx; clear hx)
  exact bodyPost_end (results_none Tryz.results29 _ _ _) rfl (hR.out _ _ ⟨rfl, HX.out⟩)
/-- has: whether a byte follows that is like told. -/
theorem hasT (S : ByteArray) (i pb : Nat) (pl : Int) (w : World) (hp : PA 66 w pb S i pl 0) (hi : i ≤ S.size) (hS : S.size ≤ 100000) (f : FuncId) (q : UInt8 → Bool) (hent : Enters Tryz.prog f)
    (hq : ∀ (c : UInt8) (w : World), Calls Tryz.prog f #[.int .u8 c.toNat] w fun e w' => e = .returned (.bool (q c)) ∧ w' = w) :
    Calls Tryz.prog 94 #[.pointer (some ⟨pb, 0, none⟩), .func (.func f) #[] #[]] w fun e w' => e = .returned (.bool (atP q (tl S) (blanks (tl S) i))) ∧ w' = w := by
  refine of_post fun R hR => ?_
  have HA := Lib.hid (aheadT S i pb pl 0 w hp hi hS)
  have hc := hp.cell
  have hb := blanks_le' S hi
  clear hp
  unfold Enters at hent
  generalize blanks (tl S) i = b at *
  by_cases hlt : b < S.size
  · have HAT := Lib.hid (atP_in q S b hlt)
    have HQ := fun w => Lib.hid (hq S[b] w)
    clear hq
    go_enter Tryz.func94, Tryz.ntmps94
    go_wp2_with (first
      | (go_at_call 14; refine HA.out.mono ?_; rintro e w ⟨rfl, rfl⟩)
      | (refine (HQ _).out.mono ?_; rintro e w ⟨rfl, hw⟩; obtain rfl := hw))
    exact hR.out _ _ ⟨ret_bb rfl (by rw [HAT.out]), rfl⟩
  · have HAT := Lib.hid (atP_out q S b hlt)
    clear hq
    go_enter Tryz.func94, Tryz.ntmps94
    go_wp2_with (first
      | (go_at_call 14; refine HA.out.mono ?_; rintro e w ⟨rfl, rfl⟩))
    exact hR.out _ _ ⟨ret_bb rfl (by rw [HAT.out]), rfl⟩
end Go.Proofs.YtnpaikdaogikcaaGreatDoor

/- Numbers' texts: the plain laws. -/
namespace Go.Proofs.YtnpaikdaogikcaaGreatDoor
set_option maxRecDepth 100000
open Go.RowKit
set_option linter.unusedVariables false
set_option linter.unusedSimpArgs false



abbrev minX : Int := -9223372036854775808
abbrev maxX : Int := 9223372036854775807


theorem formL_at (l : Bs) : formL l = if l[0]? = some 45 then formD (l.drop 1) else formD (l.drop 0) := by
  unfold formL Lib.trimPrefix
  cases l with
  | nil => rfl
  | cons c l =>
    by_cases h : c = 45
    · subst h; rfl
    · rw [if_neg (by simp [Lib.hasPrefix]; exact fun e => h e.symm), if_neg (by simpa using h)]
      rfl


/-- A number text's integer. -/
def valS (s : Bs) : Int := if s[0]? = some 45 then -(natOf (s.drop 1) : Int) else natOf s
/-- The integer of a text, if it has one that fits. -/
def intOfS (s : Bs) : Option Int := if formL s = true ∧ minX ≤ valS s ∧ valS s ≤ maxX then some (valS s) else none
theorem form_digits {s : Bs} (h : formL s = true) : s ≠ [] ∧ (s[0]? = some 45 → ∀ c ∈ s.drop 1, isDig c = true) ∧ (s[0]? ≠ some 45 → ∀ c ∈ s, isDig c = true) := by
  rw [formL_at] at h
  refine ⟨?_, ?_, ?_⟩
  · rintro rfl; simp [formD] at h
  · intro h45
    rw [if_pos h45] at h
    unfold formD at h
    simp only [Bool.and_eq_true, List.all_eq_true] at h
    exact h.2
  · intro h45
    rw [if_neg h45] at h
    unfold formD at h
    simp only [Bool.and_eq_true, List.all_eq_true, List.drop_zero] at h
    exact h.2


theorem cut_span (p : UInt8 → Bool) (s : Bs) (i : Nat) : cut s i (spanW p s i) = (s.drop i).takeWhile p := by
  unfold cut spanW
  rw [Nat.add_sub_cancel_left]
  exact (List.prefix_iff_eq_take.1 (List.takeWhile_prefix p)).symm
theorem cut_digits (s : Bs) (i : Nat) : ∀ c ∈ cut s i (spanW isDig s i), isDig c = true := by
  rw [cut_span]
  intro c hc
  exact List.all_eq_true.1 (List.all_takeWhile (p := isDig) (l := s.drop i)) c hc
theorem cut_len' (s : Bs) (i : Nat) : (cut s i (spanW isDig s i)).length = spanW isDig s i - i := by
  rw [cut_span]; unfold spanW; omega
theorem cut_head (s : Bs) (i : Nat) (h : i < spanW isDig s i) : (cut s i (spanW isDig s i)).head? = s[i]? := by
  unfold cut
  rw [List.head?_eq_getElem?, List.getElem?_take, if_pos (by omega), List.getElem?_drop]; rfl
theorem formD_cut {s : Bs} {i : Nat} (h1 : ¬ spanW isDig s i = i) (h2 : ¬ (i + 1 < spanW isDig s i ∧ s[i]? = some 48)) : formD (cut s i (spanW isDig s i)) = true := by
  have hg := spanW_ge isDig s i
  have hlt : i < spanW isDig s i := by omega
  have hl := cut_len' s i
  have hh := cut_head s i hlt
  have hd := cut_digits s i
  generalize hcd : cut s i (spanW isDig s i) = d at *
  unfold formD
  have hne : d.isEmpty = false := by cases d with | nil => simp at hl; omega | cons => rfl
  rw [hne, hh, List.all_eq_true.2 hd]
  by_cases h48 : s[i]? = some 48
  · have he : spanW isDig s i = i + 1 := by
      rcases Nat.lt_or_ge (i + 1) (spanW isDig s i) with g | g
      · exact absurd ⟨g, h48⟩ h2
      · omega
    have : d = [48] := by
      cases d with
      | nil => simp at hne
      | cons a l =>
        have : l = [] := List.eq_nil_of_length_eq_zero (by simp at hl; omega)
        rw [this]; rw [h48] at hh; simp at hh; rw [hh]
    simp [this]
  · simp [h48]
theorem numAt_int {s : Bs} {i first : Nat} {sign : Bool} (hf : first = if sign ∧ s[i]? = some 45 then i + 1 else i) (h1 : ¬ spanW isDig s first = first) (h2 : ¬ (first + 1 < spanW isDig s first ∧ s[first]? = some 48)) :
    numAt s i sign = (intOfS (cut s i (spanW isDig s first))).map fun x => (x, spanW isDig s first) := by
  have hfd := formD_cut h1 h2
  have hg := spanW_ge isDig s first
  have hlt : first < spanW isDig s first := by omega
  have hd := cut_digits s first
  have hh := cut_head s first hlt
  unfold numAt
  rw [← hf]
  simp only
  rw [if_neg (fun h => h.elim h1 h2)]
  by_cases hs : sign ∧ s[i]? = some 45
  · rw [if_pos hs] at hf
    rw [if_neg (by omega)]
    have hil := (List.getElem?_eq_some_iff.1 hs.2).1
    have hc : cut s i (spanW isDig s first) = 45 :: cut s first (spanW isDig s first) := by
      unfold cut
      rw [List.drop_eq_getElem_cons hil, (List.getElem?_eq_some_iff.1 hs.2).2, ← hf, show spanW isDig s first - i = (spanW isDig s first - first) + 1 from by omega, List.take_succ_cons]
    have hfl : formL (45 :: cut s first (spanW isDig s first)) = true := by rw [formL_at, if_pos (by simp)]; simpa using hfd
    have hv : valS (45 :: cut s first (spanW isDig s first)) = -(natOf (cut s first (spanW isDig s first)) : Int) := by unfold valS; rw [if_pos (by simp)]; simp
    rw [hc]
    unfold intOfS
    rw [hfl, hv]
    generalize natOf (cut s first (spanW isDig s first)) = m
    by_cases hm : m ≤ 9223372036854775808
    · rw [if_pos hm, if_pos ⟨rfl, by unfold minX; omega, by unfold maxX; omega⟩]; rfl
    · rw [if_neg hm, if_neg (fun h => hm (by have := h.2.1; unfold minX at this; omega))]; rfl
  · rw [if_neg hs] at hf
    subst hf
    rw [if_pos rfl]
    have h45 : ¬ (cut s first (spanW isDig s first))[0]? = some 45 := by
      rw [← List.head?_eq_getElem?]
      intro h
      have := hd 45 (List.mem_of_mem_head? h)
      exact absurd this (by decide)
    have hfl : formL (cut s first (spanW isDig s first)) = true := by rw [formL_at, if_neg h45]; simpa using hfd
    have hv : valS (cut s first (spanW isDig s first)) = (natOf (cut s first (spanW isDig s first)) : Int) := by unfold valS; rw [if_neg h45]
    unfold intOfS
    rw [hfl, hv]
    generalize natOf (cut s first (spanW isDig s first)) = m
    by_cases hm : m ≤ 9223372036854775807
    · rw [if_pos hm, if_pos ⟨rfl, by unfold minX; omega, by unfold maxX; omega⟩]; rfl
    · rw [if_neg hm, if_neg (fun h => hm (by have := h.2.2; unfold maxX at this; omega))]; rfl


theorem fold_ge (l : Bs) : ∀ acc : Nat, acc ≤ l.foldl (fun n c => 10 * n + (c.toNat - 48)) acc := by
  induction l with
  | nil => intro acc; exact Nat.le_refl _
  | cons c r ih => intro acc; rw [List.foldl_cons]; have := ih (10 * acc + (c.toNat - 48)); omega
theorem parseM_nat (m : Nat) (hm : m < 18446744073709551616) : ∀ (l : Bs) (acc : Nat), (∀ c ∈ l, isDig c = true) → l.foldl (fun n c => 10 * n + (c.toNat - 48)) acc ≤ m → Lib.parseUintM m acc l = .ok (l.foldl (fun n c => 10 * n + (c.toNat - 48)) acc)
  | [], acc, _, _ => rfl
  | c :: r, acc, hd, hl => by
    have hc := (dig_iff c).1 (hd c (by simp))
    rw [List.foldl_cons] at hl ⊢
    have hg := fold_ge r (10 * acc + (c.toNat - 48))
    rw [Lib.parseUintM, if_pos hc, if_neg (by omega), if_neg (by omega), Nat.mul_comm acc 10]
    exact parseM_nat m hm r _ (fun x hx => hd x (by simp [hx])) hl
theorem parseB_nat {l : Bs} (hne : l ≠ []) (hd : ∀ c ∈ l, isDig c = true) (h : natOf l < 18446744073709551616) : Lib.parseUintB 64 l = .ok (natOf l) := by
  unfold Lib.parseUintB
  rw [if_neg hne]
  exact parseM_nat _ (by decide) l 0 hd (by unfold natOf at h; omega)
theorem parseInt_of {s : Bs} {n : Int} (h : intOfS s = some n) : formL s = true ∧ Lib.parseIntB 64 s = .ok n := by
  unfold intOfS at h
  by_cases hc : formL s = true ∧ minX ≤ valS s ∧ valS s ≤ maxX
  · rw [if_pos hc] at h
    cases h
    obtain ⟨hf, h1, h2⟩ := hc
    obtain ⟨hne, ha, hb⟩ := form_digits hf
    refine ⟨hf, ?_⟩
    cases s with
    | nil => exact absurd rfl hne
    | cons c r =>
      unfold Lib.parseIntB
      by_cases h45 : c = 45
      · subst h45
        have hr : ∀ c ∈ r, isDig c = true := by have := ha (by simp); simpa using this
        have hv : valS ((45 : UInt8) :: r) = -(natOf r : Int) := by unfold valS; rw [if_pos (by simp)]; simp
        rw [hv] at h1 h2 ⊢
        have hr0 : r ≠ [] := by
          rintro rfl
          rw [formL_at, if_pos (by simp)] at hf
          simp [formD] at hf
        have hlt : natOf r ≤ 9223372036854775808 := by unfold minX at h1; omega
        have h45' : (45 : UInt8).toNat = 45 := rfl
        simp only [h45', or_true, if_true, parseB_nat hr0 hr (by omega)]
        have e1 : ¬ (¬ (45 : Nat) = 45 ∧ 2 ^ (64 - 1) ≤ natOf r) := by simp
        have e2 : ¬ ((45 : Nat) = 45 ∧ 2 ^ (64 - 1) < natOf r) := by omega
        rw [if_neg (by simp), if_neg (by simpa using hlt)]
      · have hd : ∀ x ∈ c :: r, isDig x = true := hb (by simpa using h45)
        have hv : valS (c :: r) = (natOf (c :: r) : Int) := by unfold valS; rw [if_neg (by simpa using h45)]
        rw [hv] at h1 h2 ⊢
        have hcd := (dig_iff c).1 (hd c (by simp))
        have hlt : natOf (c :: r) < 9223372036854775808 := by unfold maxX at h2; omega
        have hpb := parseB_nat (l := c :: r) (by simp) hd (by omega)
        have e0 : ¬ (c.toNat = 43 ∨ c.toNat = 45) := by omega
        have e1 : ¬ c.toNat = 45 := by omega
        have e3 : ¬ c.toNat = 43 := by omega
        simp only [e3, e1, or_self, not_false_eq_true, true_and, false_and, if_false]
        rw [hpb]
        show (if 2 ^ (64 - 1) ≤ natOf (c :: r) then Lib.NumEnd.range else Lib.NumEnd.ok ((natOf (c :: r) : Nat) : Int)) = _
        rw [if_neg (by have : (2 : Nat) ^ (64 - 1) = 9223372036854775808 := by decide
                       omega)]
  · rw [if_neg hc] at h; cases h
/-- A number that is read: its text's form, what it is parsed to. -/
theorem numAt_parse {s : Bs} {i e : Nat} {sign : Bool} {n : Int} (h : numAt s i sign = some (n, e)) :
    ∃ first, first = (if sign ∧ s[i]? = some 45 then i + 1 else i) ∧ e = spanW isDig s first ∧ first < e ∧ ¬ (first + 1 < e ∧ s[first]? = some 48) ∧ formL (cut s i e) = true ∧ Lib.parseIntB 64 (cut s i e) = .ok n := by
  refine ⟨_, rfl, ?_⟩
  generalize hf : (if sign ∧ s[i]? = some 45 then i + 1 else i) = first at *
  have hge := spanW_ge isDig s first
  have h1 : ¬ spanW isDig s first = first := by
    intro e1
    unfold numAt at h
    rw [hf] at h
    simp only at h
    rw [if_pos (.inl e1)] at h; cases h
  have h2 : ¬ (first + 1 < spanW isDig s first ∧ s[first]? = some 48) := by
    intro e1
    unfold numAt at h
    rw [hf] at h
    simp only at h
    rw [if_pos (.inr e1)] at h; cases h
  rw [numAt_int hf.symm h1 h2] at h
  cases hi : intOfS (cut s i (spanW isDig s first)) with
  | none => rw [hi] at h; cases h
  | some x =>
    rw [hi] at h
    simp only [Option.map_some, Option.some.injEq, Prod.mk.injEq] at h
    obtain ⟨rfl, rfl⟩ := h
    obtain ⟨p1, p2⟩ := parseInt_of hi
    exact ⟨rfl, by omega, h2, p1, p2⟩
end Go.Proofs.YtnpaikdaogikcaaGreatDoor
