/- expr: a byte's kinds, the place behind blanks, words, signs. -/
import Derived.Test.YtnpaikdaogikcaaGreatDoorG05
import Derived.Deep.RegionWith
import Derived.Deep.RegionHeld3
import Derived.Deep.CutBlock
import Derived.Deep.DeepCutAuto
import Derived.Test.YtnpaikdaogikcaaGreatDoorG08

namespace Go.Proofs.YtnpaikdaogikcaaGreatDoor
set_option maxRecDepth 100000
open Go.RowKit
set_option linter.unusedVariables false
set_option linter.unusedSimpArgs false

theorem letterX (c : UInt8) (w : World) : Calls Tryz.prog 179 #[.int .u8 c.toNat] w fun e w' => e = .returned (.bool (isLet c)) ∧ w' = w := by
  refine of_post fun R hR => ?_
  rcases let_iv c with ⟨hc, h1⟩ | ⟨hc, h1, h2⟩ | ⟨hc, h1, h2⟩ | ⟨hc, h1, h2⟩ | ⟨hc, h1⟩
  all_goals
    have HC := Lib.hid hc
    clear hc
    go_enter Tryz.func179, Tryz.ntmps179
    go_wp2_with fail
    exact hR.out _ _ ⟨ret_bb rfl (by rw [HC.out]; first | done | rfl | (simp; omega)), rfl⟩
theorem digitX (c : UInt8) (w : World) : Calls Tryz.prog 219 #[.int .u8 c.toNat] w fun e w' => e = .returned (.bool (isDig c)) ∧ w' = w := by
  refine of_post fun R hR => ?_
  rcases dig_iv c with ⟨hc, h1⟩ | ⟨hc, h1, h2⟩ | ⟨hc, h1⟩
  all_goals
    have HC := Lib.hid hc
    clear hc
    go_enter Tryz.func219, Tryz.ntmps219
    go_wp2_with fail
    exact hR.out _ _ ⟨ret_bb rfl (by rw [HC.out]; first | done | rfl | (simp; omega)), rfl⟩
theorem goesX (c : UInt8) (w : World) : Calls Tryz.prog 181 #[.int .u8 c.toNat] w fun e w' => e = .returned (.bool (isGo c)) ∧ w' = w := by
  refine of_post fun R hR => ?_
  have HL := fun w => Lib.hid (letterX c w)
  have HD := fun w => Lib.hid (digitX c w)
  have HU := Lib.hid (u8_eq c 95)
  have HG : Hid (isGo c = (isLet c || isDig c || c == 95)) := Lib.hid rfl
  generalize isGo c = g at *
  generalize isLet c = a at *
  generalize isDig c = b at *
  go_enter Tryz.func181, Tryz.ntmps181
  cases a <;> cases b
  all_goals
    go_wp2_with (first
      | (go_at_call 179; refine (HL _).out.mono ?_; rintro e w1 ⟨rfl, rfl⟩)
      | (go_at_call 219; refine (HD _).out.mono ?_; rintro e w1 ⟨rfl, rfl⟩))
    exact hR.out _ _ ⟨ret_bb rfl (by rw [HG.out]; first | done | rfl | (rw [HU.out]; rfl) | simp), rfl⟩
set_option maxHeartbeats 1000000 in
theorem aheadX (S : ByteArray) (i : Nat) (pb : Nat) (pl c : Int) (w : World) (hp : PA 207 w pb S i pl c) (hi : i ≤ S.size) (hS : S.size ≤ 100000) :
    Calls Tryz.prog 178 #[.pointer (some ⟨pb, 0, none⟩)] w fun e w' => e = .returned (.int .i64 (blanks (tl S) i)) ∧ w' = w := by
  refine of_post fun R hR => ?_
  have hc := hp.cell
  clear hp
  have HI := fun (b : UInt8) w => Lib.hid (bl_index Tryz.prog 25 (fun s c w => Tryz.strings_IndexByte s c w) b w)
  go_enter Tryz.func178, Tryz.ntmps178
  go_wp2_with fail
  go_loopw [3] (fun iv wr => ∃ j : Nat, iv = .int .i64 j ∧ j ≤ S.size ∧ Hid (blanks (tl S) i = blanks (tl S) j) ∧ wr = w) (fun iv _ => S.size - (intOf iv).toNat)
  case atStart => exact ⟨i, rfl, hi, Lib.hid rfl, rfl⟩
  case round =>
    obtain ⟨j, rfl, hj, HB, rfl⟩ := hrel
    by_cases hlt : j < S.size
    · have HA := Lib.hid (atP_in isBl S j hlt)
      have HN : Hid (atP isBl (tl S) j = true → blanks (tl S) i = blanks (tl S) (j + 1)) := Lib.hid fun h => HB.out.trans (spanW_step _ _ _ h)
      have HZ : Hid (atP isBl (tl S) j = false → blanks (tl S) i = j) := Lib.hid fun h => HB.out.trans (spanW_stop _ _ _ h)
      have HIJ := fun w => Lib.hid (HI S[j] w).out
      clear HB HI
      cases hb : isBl S[j]
      · rw [hb] at HA HIJ
        have HE := Lib.hid (HZ.out HA.out)
        clear hb HN HZ HA
        go_wp2_with (go_at_call 25; refine (HIJ _).out.mono ?_; rintro e w1 ⟨n, rfl, hn, rfl⟩; rw [if_neg (by decide)] at hn; subst hn)
        exact hR.out _ _ ⟨ret_i rfl (by rw [HE.out]), rfl⟩
      · rw [hb] at HA HIJ
        have HE := Lib.hid (HN.out HA.out)
        clear hb HN HZ HA
        go_wp2_with (go_at_call 25; refine (HIJ _).out.mono ?_; rintro e w1 ⟨n, rfl, hn, rfl⟩; rw [if_pos rfl] at hn)
        go_roundw
        case rel => exact ⟨j + 1, by go_num, hlt, HE, trivial⟩
        case measure => simp [intOf]; omega
    · have HE : Hid (blanks (tl S) i = j) := Lib.hid (HB.out.trans (spanW_stop _ _ _ (atP_out isBl S j hlt)))
      clear HB HI
      go_wp2_with fail
      exact hR.out _ _ ⟨ret_i rfl (by rw [HE.out]), rfl⟩

set_option maxHeartbeats 1000000 in
/-- end: the place behind bytes that are like told. -/
theorem endX (S : ByteArray) (i b pb : Nat) (pl c : Int) (w : World) (hp : PA 207 w pb S i pl c) (hb : b ≤ S.size) (hS : S.size ≤ 100000) (f : FuncId) (q : UInt8 → Bool) (hent : Enters Tryz.prog f)
    (hq : ∀ (c : UInt8) (w : World), Calls Tryz.prog f #[.int .u8 c.toNat] w fun e w' => e = .returned (.bool (q c)) ∧ w' = w) :
    Calls Tryz.prog 180 #[.pointer (some ⟨pb, 0, none⟩), .int .i64 b, .func (.func f) #[] #[]] w fun e w' => e = .returned (.int .i64 (spanW q (tl S) b)) ∧ w' = w := by
  refine of_post fun R hR => ?_
  have hc := hp.cell
  clear hp
  unfold Enters at hent
  have HG := fun (c : UInt8) w => Lib.hid (hq c w)
  clear hq
  go_enter Tryz.func180, Tryz.ntmps180
  go_wp2_with fail
  go_loopw [1] (fun iv wr => ∃ j : Nat, iv = .int .i64 j ∧ b ≤ j ∧ j ≤ S.size ∧ Hid (spanW q (tl S) b = spanW q (tl S) j) ∧ wr = w) (fun iv _ => S.size - (intOf iv).toNat)
  case atStart => exact ⟨b, rfl, Nat.le_refl _, hb, Lib.hid rfl, rfl⟩
  case round =>
    obtain ⟨j, rfl, hbj, hj, HB, rfl⟩ := hrel
    by_cases hjl : j < S.size
    · have HAJ := Lib.hid (atP_in q S j hjl)
      have HN : Hid (atP q (tl S) j = true → spanW q (tl S) b = spanW q (tl S) (j + 1)) := Lib.hid fun h => HB.out.trans (spanW_step _ _ _ h)
      have HZ : Hid (atP q (tl S) j = false → spanW q (tl S) b = j) := Lib.hid fun h => HB.out.trans (spanW_stop _ _ _ h)
      have HGJ := fun w => Lib.hid (HG S[j] w).out
      clear HB HG
      cases hg : q S[j]
      · rw [hg] at HAJ HGJ
        have HE := Lib.hid (HZ.out HAJ.out)
        clear hg HN HZ HAJ
        go_wp2_with (refine (HGJ _).out.mono ?_; rintro e w ⟨rfl, hw⟩; obtain rfl := hw)
        exact hR.out _ _ ⟨ret_i rfl (by rw [HE.out]), rfl⟩
      · rw [hg] at HAJ HGJ
        have HE := Lib.hid (HN.out HAJ.out)
        clear hg HN HZ HAJ
        go_wp2_with (refine (HGJ _).out.mono ?_; rintro e w ⟨rfl, hw⟩; obtain rfl := hw)
        go_roundw
        case rel => exact ⟨j + 1, by go_num, by omega, hjl, HE, trivial⟩
        case measure => simp [intOf]; omega
    · have HE : Hid (spanW q (tl S) b = j) := Lib.hid (HB.out.trans (spanW_stop _ _ _ (atP_out q S j hjl)))
      clear HB HG
      go_wp2_with fail
      exact hR.out _ _ ⟨ret_i rfl (by rw [HE.out]), rfl⟩
set_option maxHeartbeats 1000000 in
theorem wordX (S : ByteArray) (i pb : Nat) (pl c : Int) (w : World) (hp : PA 207 w pb S i pl c) (hi : i ≤ S.size) (hS : S.size ≤ 100000) :
    Calls Tryz.prog 131 #[.pointer (some ⟨pb, 0, none⟩)] w fun e w' => e = .returned (sv (word (tl S) i).1) ∧ Ext w w' := by
  refine of_post fun R hR => ?_
  have HA := Lib.hid (aheadX S i pb pl c w hp hi hS)
  have hc := hp.cell
  have hb := blanks_le' S hi
  have HW : Hid (word (tl S) i = if atP isLet (tl S) (blanks (tl S) i) then (cut (tl S) (blanks (tl S) i) (spanW isGo (tl S) (blanks (tl S) i)), spanW isGo (tl S) (blanks (tl S) i)) else ([], i)) := Lib.hid rfl
  have hp0 := hp
  clear hp
  generalize word (tl S) i = W at *
  generalize blanks (tl S) i = b at *
  by_cases hlt : b < S.size
  · have HAT := Lib.hid (atP_in isLet S b hlt)
    have HL := fun w => Lib.hid (letterX S[b] w)
    have hne : ((b : Int) == (S.size : Int)) = false := by simp; omega
    cases hl : isLet S[b]
    · rw [hl] at HAT HL
      have HE : Hid (W.1 = []) := Lib.hid (by rw [HW.out, HAT.out]; rfl)
      clear hl HAT HW
      go_enter Tryz.func131, Tryz.ntmps131
      go_wp2_with (first
        | (go_at_call 178; refine HA.out.mono ?_; rintro e w ⟨rfl, rfl⟩)
        | (go_at_call 179; refine (HL _).out.mono ?_; rintro e w ⟨rfl, rfl⟩))
      exact hR.out _ _ ⟨ret_sv rfl (by rw [HE.out]), Ext.refl' _⟩
    · rw [hl] at HAT HL
      have HX : Hid (W.1 = cut (tl S) b (spanW isGo (tl S) b)) := Lib.hid (by rw [HW.out, HAT.out]; rfl)
      clear hl HAT HW
      have HEN := Lib.hid (endX S i b pb pl c w.drew (hp0.on ((Ext.refl' w).drewN' 1)) hb hS 181 isGo (enters_of Tryz.func181 (by kernel_rfl) rfl) goesX)
      have hcd : w.drew.cell? ⟨pb, 0, none⟩ = some (.string S) := hc 0
      have hs1 := spanW_le isGo (tl S) b (by rw [tl_len]; exact hb)
      have hs2 := spanW_ge isGo (tl S) b
      rw [tl_len] at hs1
      generalize spanW isGo (tl S) b = q at *
      have g1 : (b : Int) ≤ q := by omega
      have g2 : (q : Int) ≤ S.size := by omega
      clear hp0
      go_enter Tryz.func131, Tryz.ntmps131
      go_upto_region 4 with (first
        | (go_at_call 178; refine HA.out.mono ?_; rintro e w ⟨rfl, rfl⟩)
        | (go_at_call 179; refine (HL _).out.mono ?_; rintro e w ⟨rfl, rfl⟩))
      go_region_held3 (fun X => X.cell? ⟨pb, 0, none⟩ = some (.string S)) (first | exact hcd | go_keep) ((go_at_call 180; refine HEN.out.mono ?_; rintro e w6 ⟨rfl, hw⟩; obtain rfl := hw))
      all_goals
        go_wp2_with fail
        exact hR.out _ _ ⟨ret_sv rfl (by rw [HX.out, ← cut_any]), (Ext.refl' w).drewN' 1⟩
  · have HAT := Lib.hid (atP_out isLet S b hlt)
    have HE : Hid (W.1 = []) := Lib.hid (by rw [HW.out, HAT.out]; rfl)
    obtain rfl : b = S.size := by omega
    clear HAT HW
    go_enter Tryz.func131, Tryz.ntmps131
    go_wp2_with (first
      | (go_at_call 178; refine HA.out.mono ?_; rintro e w ⟨rfl, rfl⟩))
    exact hR.out _ _ ⟨ret_sv rfl (by rw [HE.out]), Ext.refl' _⟩

/-- mark: whether a sign follows; a sign: no word. -/
theorem markX_no (S T : ByteArray) (i pb : Nat) (pl c : Int) (w : World) (hp : PA 207 w pb S i pl c) (hi : i ≤ S.size) (hS : S.size ≤ 100000) (h : c ≠ 0 ∨ mark (tl S) i (tl T) = none) :
    Calls Tryz.prog 252 #[.pointer (some ⟨pb, 0, none⟩), .string T] w fun e w' => e = .returned (.bool false) ∧ w' = w := by
  refine of_post fun R hR => ?_
  have HA := Lib.hid (aheadX S i pb pl c w hp hi hS)
  have hc := hp.cell
  have hb := blanks_le' S hi
  clear hp
  have HP := fun w => Lib.hid (Tryz.strings_HasPrefix (S.extract (blanks (tl S) i) S.size) T w)
  by_cases hc0 : c = 0
  · subst hc0
    have hm : mark (tl S) i (tl T) = none := h.resolve_left (fun e => e rfl)
    have hf : Lib.hasPrefix (S.extract (blanks (tl S) i) S.size).data.toList T.data.toList = false := by
      rw [tl_drop]
      unfold mark at hm
      unfold Lib.hasPrefix
      by_cases e : (tl T).isPrefixOf ((tl S).drop (blanks (tl S) i)) = true
      · rw [if_pos e] at hm; cases hm
      · exact Bool.eq_false_iff.2 e
    rw [hf] at HP
    clear hf hm h
    generalize blanks (tl S) i = b at *
    have h1 : (b : Int) ≤ S.size := by omega
    go_enter Tryz.func252, Tryz.ntmps252
    go_wp2_with (first
      | (go_at_call 178; refine HA.out.mono ?_; rintro e w ⟨rfl, rfl⟩)
      | (go_at_call 92; refine (HP _).out.mono ?_; rintro e w ⟨rfl, hw⟩; obtain rfl := hw))
    exact hR.out _ _ ⟨rfl, rfl⟩
  · have hcb : ((c : Int) != 0) = true := by simpa using hc0
    clear h
    generalize blanks (tl S) i = b at *
    go_enter Tryz.func252, Tryz.ntmps252
    go_wp2_with (first
      | (go_at_call 178; refine HA.out.mono ?_; rintro e w ⟨rfl, rfl⟩))
    exact hR.out _ _ ⟨rfl, rfl⟩

theorem markX_yes (S T : ByteArray) (i j pb : Nat) (pl : Int) (w : World) (hp : PA 207 w pb S i pl 0) (hi : i ≤ S.size) (hS : S.size ≤ 100000) (hT : 0 < T.size) (hT2 : T.size ≤ 1000)
    (hm : mark (tl S) i (tl T) = some j) (hl : isLet T[0] = false) :
    Calls Tryz.prog 252 #[.pointer (some ⟨pb, 0, none⟩), .string T] w fun e w' => e = .returned (.bool true) ∧ PM 207 pb S j pl 0 w w' := by
  refine of_post fun R hR => ?_
  have HA := Lib.hid (aheadX S i pb pl 0 w hp hi hS)
  have hc := hp.cell
  have hfz := hp.frozen 1
  have hb := blanks_le' S hi
  have HPA := Lib.hid hp
  clear hp
  have HP := fun w => Lib.hid (Tryz.strings_HasPrefix (S.extract (blanks (tl S) i) S.size) T w)
  obtain ⟨h1, h2⟩ := prefix_some hm
  rw [h1] at HP
  have HJ := Lib.hid h2
  clear h1 h2 hm
  have h3 : (T.size : Int) ≤ 1000 := by omega
  have h4 : (S.size : Int) ≤ 100000 := by omega
  have HL := fun w => Lib.hid (letterX T[0] w)
  generalize blanks (tl S) i = b at *
  have h5 : (b : Int) ≤ S.size := by omega
  rw [hl] at HL
  clear hl
  go_enter Tryz.func252, Tryz.ntmps252
  go_wp2_with (first
    | (go_at_call 178; refine HA.out.mono ?_; rintro e w ⟨rfl, rfl⟩)
    | (go_at_call 92; refine (HP _).out.mono ?_; rintro e w ⟨rfl, hw⟩; obtain rfl := hw)
    | (go_at_call 179; refine (HL _).out.mono ?_; rintro e w ⟨rfl, hw⟩; obtain rfl := hw))
  refine hR.out _ _ ⟨rfl, ?_⟩
  have := PM.set (Keeps.refl _ _) HPA.out (b + T.size)
  rw [HJ.out]; simpa using this
/-- need: what must follow, where it does. -/
theorem needX (S T : ByteArray) (i j pb : Nat) (pl : Int) (w : World) (hp : PA 207 w pb S i pl 0) (hi : i ≤ S.size) (hS : S.size ≤ 100000) (hT : 0 < T.size) (hT2 : T.size ≤ 1000)
    (hm : mark (tl S) i (tl T) = some j) (hl : isLet T[0] = false) :
    Calls Tryz.prog 294 #[.pointer (some ⟨pb, 0, none⟩), .string T] w fun e w' => e = .returned (.tuple #[]) ∧ PM 207 pb S j pl 0 w w' := by
  refine of_post fun R hR => ?_
  have HM := Lib.hid (markX_yes S T i j pb pl w hp hi hS hT hT2 hm hl)
  go_enter Tryz.func294, Tryz.ntmps294
  go_wp2_with (go_at_call 252; refine HM.out.mono ?_; rintro e w1 ⟨rfl, hx⟩; have HX := Lib.hid hx; clear hx)
  exact bodyPost_end (results_none Tryz.results294 _ _ _) rfl (hR.out _ _ ⟨rfl, HX.out⟩)
end Go.Proofs.YtnpaikdaogikcaaGreatDoor

/- expr: a number, this; what stands alone. -/
namespace Go.Proofs.YtnpaikdaogikcaaGreatDoor
set_option maxRecDepth 100000
open Go.RowKit
set_option linter.unusedVariables false
set_option linter.unusedSimpArgs false

theorem info9x : (Tryz.prog.info? 118).map (·.size) = some 9 := by kernel_rfl
abbrev zero9x : Array Value := #[.string ⟨#[]⟩, .string ⟨#[]⟩, .int .i64 0, .bool false, .int .i64 0, .string ⟨#[]⟩, .slice none 0 0, .slice none 0 0, .slice none 0 0]
/-- What a parser's method for an expression gives: the tree, and the place behind it. -/
def GExpr (pb : Nat) (S : ByteArray) (j : Nat) (x : E) (w : World) (e : Ending) (w' : World) : Prop := GivesK (fun b => b = pb) (AE1 x) w e w' ∧ PA 207 w' pb S j 0 0
/-- A level of the parser reads a tree. -/
def LX (f : FuncId) (S : ByteArray) (i : Nat) (x : E) (j : Nat) : Prop := ∀ (pb : Nat) (w : World), PA 207 w pb S i 0 0 → Calls Tryz.prog f #[.pointer (some ⟨pb, 0, none⟩)] w (GExpr pb S j x w)
theorem rdE_leaf (p : Nat → Prop) (w : World) (op name : Bs) (v : V) (vs : List Value) (h : RdV p w v vs) : RdE p w (.mk op name v []) (sv op :: sv name :: (vs ++ [.slice none 0 0])) := by
  simp only [RdE]
  exact ⟨vs, none, 0, [], rfl, h, Nat.le_refl _, rfl, CellsFrom.nil _ _ _⟩
abbrev cellsLit (n : Int) : Array Value := #[.string ⟨#[108, 105, 116]⟩, .string ⟨#[]⟩, .int .i64 2, .bool false, .int .i64 n, .string ⟨#[]⟩, .slice none 0 0, .slice none 0 0, .slice none 0 0]
theorem rdE_lit (p : Nat → Prop) (w : World) (n : Int) : AE1 (lit (.ofInt n)) p w (cellsLit n) := rdE_leaf p w kLit [] (.ofInt n) _ (rdV_int p w n)
theorem literalX (n : Int) (w : World) : Calls Tryz.prog 296 #[.agg (cellsInt n).toArray] w fun e w' => e = .returned (.agg (cellsLit n)) ∧ Ext w w' := by
  refine of_post fun R hR => ?_
  have HM := Lib.hid (madeK (S := fun _ => False) (w.alloc (.cells (cellsInt n).toArray 32)) zero9x 118 (fun _ h => h.elim))
  have HX := Lib.hid (ext_al w (.cells (cellsInt n).toArray 32))
  go_enter Tryz.func296, Tryz.ntmps296
  go_wp2_with (refine wpList_answerK (kE (lit (.ofInt n))) rfl 118 _ _ rfl rfl HM rfl info9x (Lib.hid (rdE_lit (fun _ => False) _ n)) (Lib.hid (fun _ h => h.elim)) (by rw [World.size_alloc]; rfl) rfl ?_; intro w9 HG HK)
  exact GivenK.fin HG Tryz.results296 (by rw [World.size_alloc]; rfl) _ Tryz.underlying118 rfl info9x rfl fun h => hR.out _ _ ⟨rfl, HX.out.trans' (h.2.ext fun _ _ h => h)⟩
set_option maxHeartbeats 2000000 in
theorem numberX (S : ByteArray) (i b pb : Nat) (n : Int) (e : Nat) (w : World) (hp : PA 207 w pb S i 0 0) (hS : S.size ≤ 100000) (hn : numAt (tl S) b false = some (n, e)) (hg : atP isGo (tl S) e = false) :
    Calls Tryz.prog 295 #[.pointer (some ⟨pb, 0, none⟩), .int .i64 b] w (GExpr pb S e (lit (.ofInt n)) w) := by
  refine of_post fun R hR => ?_
  have hlt := hp.lt
  obtain ⟨first, hfirst, he, hfe, h48, hform, hpar⟩ := numAt_parse hn
  have hfb : first = b := by rw [hfirst]; simp
  subst hfb
  clear hn hfirst
  have hesz : e ≤ S.size := by
    rw [he]
    by_cases hk : first ≤ S.size
    · exact spanW_le isDig (tl S) first hk
    · exfalso
      have : spanW isDig (tl S) first = first := spanW_stop _ _ _ (atP_out isDig S first (by omega))
      omega
  have HPR := fun w => Lib.hid (whole_parse_ok (S.extract first e) n w (by
    have : (S.extract first e).size ≤ S.size := by rw [ByteArray.size_extract]; omega
    omega) (by rw [cut_any]; exact hform) (by rw [cut_any]; exact hpar))
  have hfl : first < S.size := by omega
  have H48 : decide ((first : Int) + 1 < e) = true → ((S[first].toNat : Int) == 48) = false := fun hk => by
    have hk : first + 1 < e := by have := of_decide_eq_true hk; omega
    have : ¬ (tl S)[first]? = some 48 := fun h => h48 ⟨hk, h⟩
    rw [tl_get S first hfl] at this
    simp only [beq_eq_false_iff_ne]
    intro hz
    exact this (congrArg some (UInt8.toNat_inj.1 (by show S[first].toNat = 48; omega)))
  have HM := Lib.hid (madeK (S := fun b => b = pb) w zero9x 118 (by rintro b rfl; exact hlt))
  have HPA := Lib.hid (hp.on (ext_al w (.cells zero9x 118)))
  have HEN := Lib.hid (endX S i first pb 0 0 _ HPA.out (by omega) hS 219 isDig (enters_of Tryz.func219 (by kernel_rfl) rfl) digitX)
  rw [← he] at HEN
  have hc1 := HPA.out.cell
  have HGO : Hid (∀ h : e < S.size, isGo S[e] = false) := Lib.hid fun h => by rw [← atP_in isGo S e h]; exact hg
  have g1 : (first : Int) ≤ e := by omega
  have g2 : (e : Int) ≤ S.size := by omega
  have g3 : (S.size : Int) ≤ 100000 := by omega
  have g4 : (first : Int) < S.size := by omega
  have hcase : (((S[first].toNat : Int) == 48) = false) ∨ ((((S[first].toNat : Int) == 48) = true) ∧ ¬ (first : Int) + 1 < e) := by
    cases hz : ((S[first].toNat : Int) == 48)
    · exact .inl rfl
    · refine .inr ⟨rfl, fun h => ?_⟩
      have := H48 (decide_eq_true h)
      rw [hz] at this
      cases this
  have HDG := fun (c : UInt8) w => Lib.hid (goesX c w)
  clear h48 hform hpar he H48 hp hg
  by_cases hes : e < S.size
  · have hge := HGO.out hes
    have HGE := fun w => Lib.hid (HDG S[e] w).out
    rw [hge] at HGE
    have g5 : (e : Int) < S.size := by omega
    clear HDG HGO hge
    rcases hcase with hz | ⟨hz, hz2⟩
    all_goals
      go_enter Tryz.func295, Tryz.ntmps295
      go_wp2_with (first
        | (go_at_call 180; refine HEN.out.mono ?_; rintro r w1 ⟨rfl, hw⟩; obtain rfl := hw)
        | (go_at_call 127; refine (HPR _).out.mono ?_; rintro r w1 ⟨rfl, hx⟩; replace HM := Lib.hid (HM.out.on hx); replace HPA := Lib.hid (HPA.out.on hx); replace hc1 := HPA.out.cell; have hfz := HPA.out.frozen 1; clear hx)
        | (go_at_call 181; refine (HGE _).out.mono ?_; rintro r w3 ⟨rfl, hw⟩; obtain rfl := hw)
        | (go_at_call 39; refine (numberV n _).mono ?_; rintro r w1 ⟨rfl, hx⟩; have HPS := Lib.hid ((HPA.out.set e).on hx); replace HM := Lib.hid ((HM.out.keep (Keeps.set _ ⟨pb, 1, none⟩ _)).on hx); clear hx)
        | (go_at_call 296; refine (literalX n _).mono ?_; rintro r w1 ⟨rfl, hx⟩; replace HPS := Lib.hid (HPS.out.on hx); replace HM := Lib.hid (HM.out.on hx); clear hx)
        | (refine wpList_answerK (kE (lit (.ofInt n))) rfl 118 _ _ rfl rfl HM rfl info9x (Lib.hid (rdE_lit (fun _ => False) _ n)) (Lib.hid (fun _ h => h.elim)) rfl rfl ?_; intro w9 HG HK))
      exact GivenK.fin HG Tryz.results295 rfl _ Tryz.underlying118 rfl info9x rfl fun h => hR.out _ _ ⟨h, Blk.keeps HPS.out HK.out (by omega)⟩
  · skip
    have g5 : ¬ (e : Int) < S.size := by omega
    clear HDG HGO
    rcases hcase with hz | ⟨hz, hz2⟩
    all_goals
      go_enter Tryz.func295, Tryz.ntmps295
      go_wp2_with (first
        | (go_at_call 180; refine HEN.out.mono ?_; rintro r w1 ⟨rfl, hw⟩; obtain rfl := hw)
        | (go_at_call 127; refine (HPR _).out.mono ?_; rintro r w1 ⟨rfl, hx⟩; replace HM := Lib.hid (HM.out.on hx); replace HPA := Lib.hid (HPA.out.on hx); replace hc1 := HPA.out.cell; have hfz := HPA.out.frozen 1; clear hx)
        | (go_at_call 39; refine (numberV n _).mono ?_; rintro r w1 ⟨rfl, hx⟩; have HPS := Lib.hid ((HPA.out.set e).on hx); replace HM := Lib.hid ((HM.out.keep (Keeps.set _ ⟨pb, 1, none⟩ _)).on hx); clear hx)
        | (go_at_call 296; refine (literalX n _).mono ?_; rintro r w1 ⟨rfl, hx⟩; replace HPS := Lib.hid (HPS.out.on hx); replace HM := Lib.hid (HM.out.on hx); clear hx)
        | (refine wpList_answerK (kE (lit (.ofInt n))) rfl 118 _ _ rfl rfl HM rfl info9x (Lib.hid (rdE_lit (fun _ => False) _ n)) (Lib.hid (fun _ h => h.elim)) rfl rfl ?_; intro w9 HG HK))
      exact GivenK.fin HG Tryz.results295 rfl _ Tryz.underlying118 rfl info9x rfl fun h => hR.out _ _ ⟨h, Blk.keeps HPS.out HK.out (by omega)⟩
end Go.Proofs.YtnpaikdaogikcaaGreatDoor

/- expr: one thing that stands alone; what is taken of it. -/
namespace Go.Proofs.YtnpaikdaogikcaaGreatDoor
set_option maxRecDepth 100000
open Go.RowKit
set_option linter.unusedVariables false
set_option linter.unusedSimpArgs false

set_option maxHeartbeats 4000000 in
theorem oneX_num (S : ByteArray) (i : Nat) (n : Int) (e : Nat) (hi : i ≤ S.size) (hS : S.size ≤ 100000) (hd : atP isDig (tl S) (blanks (tl S) i) = true) (hn : numAt (tl S) (blanks (tl S) i) false = some (n, e)) (hg : atP isGo (tl S) e = false) :
    LX 292 S i (lit (.ofInt n)) e := by
  intro pb w hp
  refine of_post fun R hR => ?_
  have hlt := hp.lt
  have hlb : blanks (tl S) i < S.size := by
    rcases Nat.lt_or_ge (blanks (tl S) i) S.size with h | h
    · exact h
    · rw [atP_out isDig S _ (by omega)] at hd; cases hd
  have hdb : isDig S[blanks (tl S) i] = true := by rw [← atP_in isDig S _ hlb]; exact hd
  have HM := Lib.hid (madeK (S := fun b => b = pb) w zero9x 118 (by rintro b rfl; exact hlt))
  have HPA := Lib.hid (hp.on (ext_al w (.cells zero9x 118)))
  have HAH := Lib.hid (aheadX S i pb 0 0 _ HPA.out hi hS)
  have HWD := Lib.hid (wordX S i pb 0 0 _ HPA.out hi hS)
  have HNM := fun w h => Lib.hid (numberX S i (blanks (tl S) i) pb n e w h hS hn hg)
  have HDG := fun w => Lib.hid (digitX S[blanks (tl S) i] w)
  rw [hdb] at HDG
  have hc1 := HPA.out.cell
  generalize (word (tl S) i).1 = W at *
  generalize blanks (tl S) i = b at *
  have g1 : (b : Int) < S.size := by omega
  clear hd hn hg hp hdb
  go_enter Tryz.func292, Tryz.ntmps292
  go_wp2_with (first
    | (go_at_call 178; refine HAH.out.mono ?_; rintro r w1 ⟨rfl, hw⟩; obtain rfl := hw)
    | (go_at_call 131; refine HWD.out.mono ?_; rintro r w1 ⟨rfl, hx⟩; replace HM := Lib.hid (HM.out.on hx); replace HPA := Lib.hid (HPA.out.on hx); replace hc1 := HPA.out.cell; clear hx)
    | (go_at_call 219; refine (HDG _).out.mono ?_; rintro r w3 ⟨rfl, hw⟩; obtain rfl := hw)
    | (go_at_call 295; refine (HNM _ HPA.out).out.mono ?_; rintro r w1 ⟨⟨⟨cs, rfl, ha⟩, hk⟩, hpa⟩; have HA := Lib.hid ha; have HQ : Hid (∀ b, Fr _ b → w.heap.size < b) := Lib.hid (fun b hb => Nat.lt_of_lt_of_le HM.out.lt hb); replace HPA := Lib.hid hpa; replace HM := Lib.hid (HM.out.keep hk); clear ha hk hpa)
    | (refine wpList_answerK (kE (lit (.ofInt n))) rfl 118 _ _ rfl rfl HM rfl info9x HA HQ rfl rfl ?_; intro w9 HG HK))
  exact GivenK.fin HG Tryz.results292 rfl _ Tryz.underlying118 rfl info9x rfl fun h => hR.out _ _ ⟨h, Blk.keeps HPA.out HK.out (by omega)⟩
theorem rdE_this (p : Nat → Prop) (w : World) : AE1 (.mk kThis [] .none []) p w #[.string ⟨#[116, 104, 105, 115]⟩, .string ⟨#[]⟩, .int .i64 0, .bool false, .int .i64 0, .string ⟨#[]⟩, .slice none 0 0, .slice none 0 0, .slice none 0 0] :=
  rdE_leaf p w kThis [] .none [.int .i64 0, .bool false, .int .i64 0, .string ⟨#[]⟩, .slice none 0 0, .slice none 0 0] (by simp only [V.none, RdV]; exact ⟨none, 0, none, 0, [], rfl, Nat.le_refl _, Nat.le_refl _, rfl, CellsFrom.nil _ _ _, CellsFrom.nil _ _ _⟩)
set_option maxHeartbeats 4000000 in
theorem oneX_this (S : ByteArray) (i : Nat) (hi : i ≤ S.size) (hS : S.size ≤ 100000) (hw : (word (tl S) i).1 = kThis) (hch : (tl S)[blanks (tl S) i]? = some 116) (hm : mark (tl S) i [40] = none) :
    LX 292 S i (.mk kThis [] .none []) (blanks (tl S) i + 4) := by
  intro pb w hp
  refine of_post fun R hR => ?_
  have hlt := hp.lt
  have hlb : blanks (tl S) i < S.size := by
    rw [← tl_len]; exact (List.getElem?_eq_some_iff.1 hch).1
  have hsb : S[blanks (tl S) i] = 116 := by rw [tl_get S _ hlb] at hch; exact Option.some.inj hch
  have HM := Lib.hid (madeK (S := fun b => b = pb) w zero9x 118 (by rintro b rfl; exact hlt))
  have HPA := Lib.hid (hp.on (ext_al w (.cells zero9x 118)))
  have HAH := Lib.hid (aheadX S i pb 0 0 _ HPA.out hi hS)
  have HWD := Lib.hid (wordX S i pb 0 0 _ HPA.out hi hS)
  have HMK := fun w h => Lib.hid (markX_no S ⟨#[40]⟩ i pb 0 0 w h hi hS (.inr hm))
  rw [hw] at HWD
  have HDG := fun w => Lib.hid (digitX S[blanks (tl S) i] w)
  rw [hsb] at HDG
  rw [show isDig 116 = false from by decide] at HDG
  have hc1 := HPA.out.cell
  generalize blanks (tl S) i = b at *
  have h34 : ((S[b].toNat : Int) == 34) = false := by rw [hsb]; rfl
  have g1 : (b : Int) < S.size := by omega
  have hdg : S[b].toNat = 116 := by rw [hsb]; rfl
  clear hch hp hw hm hsb
  go_enter Tryz.func292, Tryz.ntmps292
  go_wp2_with (first
    | (go_at_call 178; refine HAH.out.mono ?_; rintro r w1 ⟨rfl, hw⟩; obtain rfl := hw)
    | (go_at_call 131; refine HWD.out.mono ?_; rintro r w1 ⟨rfl, hx⟩; replace HM := Lib.hid (HM.out.on hx); replace HPA := Lib.hid (HPA.out.on hx); replace hc1 := HPA.out.cell; have hfz := HPA.out.frozen 1; clear hx)
    | (go_at_call 219; refine (HDG _).out.mono ?_; rintro r w3 ⟨rfl, hw⟩; obtain rfl := hw)
    | (go_at_call 252; refine (HMK _ HPA.out).out.mono ?_; rintro r w3 ⟨rfl, hw⟩; obtain rfl := hw; have HPS : Hid (PA 207 (w3.setCell ⟨pb, 1, none⟩ (.int .i64 ((b : Int) + 4))) pb S (b + 4) 0 0) := Lib.hid (HPA.out.set (b + 4)); have HM2 := Lib.hid (HM.out.keep (Keeps.set w3 ⟨pb, 1, none⟩ (.int .i64 ((b : Int) + 4)))))
    | (refine wpList_answerK (kE (.mk kThis [] .none [])) rfl 118 _ _ rfl rfl HM2 rfl info9x (Lib.hid (rdE_this (fun _ => False) _)) (Lib.hid (fun _ h => h.elim)) rfl rfl ?_; intro w9 HG HK))
  exact GivenK.fin HG Tryz.results292 rfl _ Tryz.underlying118 rfl info9x rfl fun h => hR.out _ _ ⟨h, Blk.keeps HPS.out HK.out (by omega)⟩
theorem AE1.nine {x : E} {p : Nat → Prop} {w : World} {cs : Array Value} (h : AE1 x p w cs) : ∃ o m k b n s A la c B lb d C lc e, cs = #[.string o, .string m, .int .i64 k, .bool b, .int .i64 n, .string s, .slice A la c, .slice B lb d, .slice C lc e] := by
  obtain ⟨o, m, k, b, n, s, A, la, c, B, lb, d, C, lc, e, h⟩ := RdE.nine h
  exact ⟨o, m, k, b, n, s, A, la, c, B, lb, d, C, lc, e, Array.toList_inj.1 h⟩
set_option maxHeartbeats 2000000 in
/-- Nothing is taken of it. -/
theorem partX (S : ByteArray) (i j : Nat) (x : E) (hj : j ≤ S.size) (hS : S.size ≤ 100000) (h1 : LX 292 S i x j) (h2 : mark (tl S) j [46] = none) (h3 : mark (tl S) j [91] = none) : LX 291 S i x j := by
  intro pb w hp
  refine of_post fun R hR => ?_
  have hlt := hp.lt
  have HM := Lib.hid (madeK (S := fun b => b = pb) w zero9x 118 (by rintro b rfl; exact hlt))
  have HON := Lib.hid (h1 pb _ (hp.on (ext_al w (.cells zero9x 118))))
  have HMA := fun w h => Lib.hid (markX_no S ⟨#[46]⟩ j pb 0 0 w h hj hS (.inr h2))
  have HMB := fun w h => Lib.hid (markX_no S ⟨#[91]⟩ j pb 0 0 w h hj hS (.inr h3))
  clear hp h1 h2 h3
  go_enter Tryz.func291, Tryz.ntmps291
  go_upto_region 2 with (go_at_call 292; refine HON.out.mono ?_; rintro r w1 ⟨⟨⟨cs, rfl, ha⟩, hk⟩, hpa⟩; obtain ⟨xo, xm, xk, xb, xn, xs, xA, xla, xc, xB, xlb, xd, xC, xlc, xe, rfl⟩ := AE1.nine ha; have HXL := Lib.hid (ext_al w1 (.cells #[.string xo, .string xm, .int .i64 xk, .bool xb, .int .i64 xn, .string xs, .slice xA xla xc, .slice xB xlb xd, .slice xC xlc xe] 118)); have HA := Lib.hid (RdE.on HXL.out _ _ ha); have HQ : Hid (∀ b, Fr _ b → w.heap.size < b) := Lib.hid (fun b hb => Nat.lt_of_lt_of_le HM.out.lt hb); have HPA := Lib.hid (hpa.on HXL.out); replace HM := Lib.hid ((HM.out.keep hk).on HXL.out); have HBV := Lib.hid (Blk.new w1 #[.string xo, .string xm, .int .i64 xk, .bool xb, .int .i64 xn, .string xs, .slice xA xla xc, .slice xB xlb xd, .slice xC xlc xe] 118); clear ha hk hpa)
  generalize hw2 : w1.alloc (.cells #[.string xo, .string xm, .int .i64 xk, .bool xb, .int .i64 xn, .string xs, .slice xA xla xc, .slice xB xlb xd, .slice xC xlc xe] 118) = w2 at *
  clear hw2 HXL
  generalize w1.heap.size = vb at *
  go_loopw [] (fun wr => wr = w2) (fun _ => 0)
  case atStart => rfl
  case round =>
    obtain rfl := hrel
    have hc1 := HPA.out.cell
    have hcv := HBV.out
    go_wp2_with (first
      | (go_at_call 252; (with_reducible refine (HMA _ HPA.out).out.mono ?_); rintro r w3 ⟨rfl, hw⟩; obtain rfl := hw)
      | (go_at_call 252; (with_reducible refine (HMB _ HPA.out).out.mono ?_); rintro r w3 ⟨rfl, hw⟩; obtain rfl := hw)
      | (refine wpList_load_blk rfl 118 _ rfl vb _ _ hcv rfl _ Tryz.underlying118 rfl info9x ?_)
      | (refine wpList_answerK (kE x) rfl 118 _ _ rfl rfl HM rfl info9x HA HQ rfl rfl ?_; intro w9 HG HK))
    exact GivenK.fin HG Tryz.results291 rfl _ Tryz.underlying118 rfl info9x rfl fun h => hR.out _ _ ⟨h, Blk.keeps HPA.out HK.out (by omega)⟩
end Go.Proofs.YtnpaikdaogikcaaGreatDoor
