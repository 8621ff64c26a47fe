/- Bytes of texts, words and marks: the plain laws. -/
import Derived.Test.YtmhdcnaibleihaaGreatDoorG03
import Derived.Test.YtmhdcnaibleihaaGreatDoorG01
import Derived.Test.YtmhdcnaibleihaaGreatDoorG02
import Derived.Test.YtmhdcnaibleihaaGreatDoorShelf

namespace Go.Proofs.YtmhdcnaibleihaaGreatDoor
set_option maxRecDepth 100000
open Go.RowKit
set_option linter.unusedVariables false
set_option linter.unusedSimpArgs false



abbrev tl (S : ByteArray) : Bs := S.data.toList
theorem tl_len (S : ByteArray) : (tl S).length = S.size := rfl
theorem tl_get (S : ByteArray) (i : Nat) (h : i < S.size) : (tl S)[i]? = some S[i] := by
  rw [List.getElem?_eq_getElem (by simpa using h)]; rfl
theorem atP_in (p : UInt8 → Bool) (S : ByteArray) (i : Nat) (h : i < S.size) : atP p (tl S) i = p S[i] := by
  unfold atP; rw [tl_get S i h]
theorem atP_out (p : UInt8 → Bool) (S : ByteArray) (i : Nat) (h : ¬ i < S.size) : atP p (tl S) i = false := by
  unfold atP; rw [List.getElem?_eq_none (by rw [tl_len]; omega)]
theorem u8_eq (a b : UInt8) : (a == b) = decide ((a.toNat : Int) = b.toNat) := by
  rw [Bool.eq_iff_iff, beq_iff_eq, decide_eq_true_iff]
  constructor
  · rintro rfl; rfl
  · intro h; exact UInt8.toNat_inj.1 (by omega)

theorem results_tmp3 {fn : Func} {t u v : Tmp} (h : fn.results = #[.tmp t, .tmp u, .tmp v]) (tmps : Array Value) (P : Program) (w : World) :
    (results fn tmps).run P w = .ok (.tuple #[tmps.getD t undef, tmps.getD u undef, tmps.getD v undef]) w := by
  simp [results, h]

theorem let_iv (c : UInt8) : (isLet c = false ∧ (c.toNat : Int) < 65) ∨ (isLet c = true ∧ 65 ≤ (c.toNat : Int) ∧ (c.toNat : Int) ≤ 90) ∨ (isLet c = false ∧ 90 < (c.toNat : Int) ∧ (c.toNat : Int) < 97) ∨ (isLet c = true ∧ 97 ≤ (c.toNat : Int) ∧ (c.toNat : Int) ≤ 122) ∨ (isLet c = false ∧ 122 < (c.toNat : Int)) := by
  unfold isLet
  rcases (by omega : c.toNat < 65 ∨ (65 ≤ c.toNat ∧ c.toNat ≤ 90) ∨ (90 < c.toNat ∧ c.toNat < 97) ∨ (97 ≤ c.toNat ∧ c.toNat ≤ 122) ∨ 122 < c.toNat) with h | h | h | h | h
  · exact .inl ⟨by simp; omega, by omega⟩
  · exact .inr (.inl ⟨by simp; omega, by omega, by omega⟩)
  · exact .inr (.inr (.inl ⟨by simp; omega, by omega, by omega⟩))
  · exact .inr (.inr (.inr (.inl ⟨by simp; omega, by omega, by omega⟩)))
  · exact .inr (.inr (.inr (.inr ⟨by simp; omega, by omega⟩)))
theorem dig_no {c : UInt8} (h : ¬ (48 ≤ c.toNat ∧ c.toNat ≤ 57)) : isDig c = false := by
  rw [Bool.eq_false_iff]; exact fun e => h ((dig_iff c).1 e)
theorem dig_iv (c : UInt8) : (isDig c = false ∧ (c.toNat : Int) < 48) ∨ (isDig c = true ∧ 48 ≤ (c.toNat : Int) ∧ (c.toNat : Int) ≤ 57) ∨ (isDig c = false ∧ 57 < (c.toNat : Int)) := by
  rcases (by omega : c.toNat < 48 ∨ (48 ≤ c.toNat ∧ c.toNat ≤ 57) ∨ 57 < c.toNat) with h | h | h
  · exact .inl ⟨dig_no (by omega), by omega⟩
  · exact .inr (.inl ⟨(dig_iff c).2 h, by omega, by omega⟩)
  · exact .inr (.inr ⟨dig_no (by omega), by omega⟩)

theorem atP_or (p q : UInt8 → Bool) (s : Bs) (i : Nat) : atP (fun c => p c || q c) s i = (atP p s i || atP q s i) := by
  unfold atP; cases s[i]? <;> rfl
theorem go_split (s : Bs) (i : Nat) : atP isGo s i = (atP isLet s i || atP isDig s i || atP (· == 95) s i) := by
  rw [← atP_or, ← atP_or]; rfl
theorem bl_split (s : Bs) (i : Nat) : atP isBl s i = (atP (· == 32) s i || atP (· == 9) s i || atP (· == 10) s i || atP (· == 13) s i) := by
  rw [← atP_or, ← atP_or, ← atP_or]; rfl
theorem sv_eq (S : ByteArray) : Value.string S = sv (tl S) := rfl
theorem cut_any (S : ByteArray) (i j : Nat) : (S.extract i j).data.toList = cut (tl S) i j := by
  unfold cut
  simp [ByteArray.data_extract, List.extract]


/-- A place, or below 0. -/
def placeOr (o : Option Nat) : Int := match o with | some e => e | none => -1
theorem beq_tl (a b : ByteArray) : (a.toList == b.toList) = decide (tl a = tl b) := by
  rw [show a.toList = tl a from ByteArray.toList_eq a, show b.toList = tl b from ByteArray.toList_eq b, Bool.eq_iff_iff]; simp
theorem beq_l (K : Bs) (S : ByteArray) : (K == S.toList) = decide (K = tl S) := by
  rw [show S.toList = tl S from ByteArray.toList_eq S, Bool.eq_iff_iff]; simp
theorem tl_inj {a b : ByteArray} (h : tl a = tl b) : a = b := by
  cases a; cases b; simp [tl] at h; subst h; rfl
theorem eq_tl (a b : ByteArray) : (a = b) ↔ tl a = tl b := ⟨fun h => h ▸ rfl, tl_inj⟩

theorem mark_out {s : Bs} {i : Nat} {t : Bs} (hi : i ≤ s.length) (h : s.length < blanks s i + t.length) : mark s i t = none := by
  unfold mark
  rw [if_neg]
  intro hp
  have := (List.isPrefixOf_iff_prefix.1 hp).length_le
  rw [List.length_drop] at this
  have hb := blanks_le s i hi
  have : 0 < t.length := by
    rcases Nat.eq_zero_or_pos t.length with h0 | h0
    · rw [h0] at h
      omega
    · exact h0
  omega
theorem mark_in {s : Bs} {i : Nat} {t : Bs} : mark s i t = if cut s (blanks s i) (blanks s i + t.length) = t then some (blanks s i + t.length) else none := by
  unfold mark cut
  congr 1
  rw [List.isPrefixOf_iff_prefix, List.prefix_iff_eq_take, Nat.add_sub_cancel_left]
  exact propext ⟨fun h => h.symm, fun h => h.symm⟩
theorem among_none {l : List Bs} {w : Bs} (h : ∀ k, k < l.length → l[k]?.getD [] ≠ w) : among l w = false := by
  unfold among
  rw [List.any_eq_false]
  intro k hk
  obtain ⟨n, hn, rfl⟩ := List.mem_iff_getElem.1 hk
  have := h n hn
  rw [List.getElem?_eq_getElem hn] at this
  simpa using this
theorem among_some {l : List Bs} {w : Bs} {j : Nat} (hj : j < l.length) (h : l[j]?.getD [] = w) : among l w = true := by
  unfold among
  rw [List.any_eq_true]
  refine ⟨_, List.getElem_mem hj, ?_⟩
  rw [List.getElem?_eq_getElem hj] at h
  simpa using h
end Go.Proofs.YtmhdcnaibleihaaGreatDoor

/- The program's parser in memory; its signs, words and marks. -/
namespace Go.Proofs.YtmhdcnaibleihaaGreatDoor
set_option maxRecDepth 100000
open Go.RowKit
set_option linter.unusedVariables false
set_option linter.unusedSimpArgs false

/-- A parser's state: its text, the place it is at, the error's place, the error. -/
def PA (t : TypeId) (w : World) (pb : Nat) (S : ByteArray) (i : Nat) (pl c : Int) : Prop := Blk w pb #[.string S, .int .i64 i, .int .i64 pl, .int .i64 c] t
section
variable {t : TypeId} {w w' : World} {pb i : Nat} {S : ByteArray} {pl c : Int}
theorem PA.lt (h : PA t w pb S i pl c) : pb < w.heap.size := Blk.lt h
theorem PA.on (h : PA t w pb S i pl c) (hx : Ext w w') : PA t w' pb S i pl c := Blk.on h hx
theorem PA.cell (h : PA t w pb S i pl c) (k : Nat) : w.cell? ⟨pb, k, none⟩ = (#[.string S, .int .i64 i, .int .i64 pl, .int .i64 c] : Array Value)[k]? := Blk.cell h k
theorem PA.frozen (h : PA t w pb S i pl c) (k : Nat) : w.frozen? ⟨pb, k, none⟩ = false := Blk.frozen h k
theorem PA.set (h : PA t w pb S i pl c) (j : Nat) : PA t (w.setCell ⟨pb, 1, none⟩ (.int .i64 j)) pb S j pl c := Blk.set h _
theorem PA.setc (h : PA t w pb S i pl c) (k : Int) : PA t (w.setCell ⟨pb, 3, none⟩ (.int .i64 k)) pb S i pl k := Blk.set h _
theorem PA.setp (h : PA t w pb S i pl c) (k : Int) : PA t (w.setCell ⟨pb, 2, none⟩ (.int .i64 k)) pb S i k c := Blk.set h _
/-- What a method of the parser leaves: all but its own block, and that one so. -/
structure PM (t : TypeId) (pb : Nat) (S : ByteArray) (j : Nat) (pl c : Int) (w w' : World) : Prop where
  keeps : Keeps (fun b => b = pb) w w'
  at_ : PA t w' pb S j pl c
theorem PM.set {w0 : World} (hx : Keeps (fun b => b = pb) w0 w) (h : PA t w pb S i pl c) (j : Nat) : PM t pb S j pl c w0 (w.setCell ⟨pb, 1, none⟩ (.int .i64 j)) :=
  ⟨Keeps.setCell (S := fun b => b = pb) hx (p := ⟨pb, 1, none⟩) rfl _, h.set j⟩
theorem PM.same (h : PA t w pb S i pl c) : PM t pb S i pl c w w := ⟨Keeps.refl _ _, h⟩
theorem PM.of_ext (h : PA t w pb S i pl c) (hx : Ext w w') : PM t pb S i pl c w w' := ⟨Keeps.of_ext hx, h.on hx⟩
end
theorem isBl_index (c : UInt8) : (isBl c = true → 0 ≤ Lib.indexByte [32, 9, 10, 13] c) ∧ (isBl c = false → Lib.indexByte [32, 9, 10, 13] c = -1) := by
  unfold isBl
  by_cases h1 : c = 32
  · subst h1; decide
  by_cases h2 : c = 9
  · subst h2; decide
  by_cases h3 : c = 10
  · subst h3; decide
  by_cases h4 : c = 13
  · subst h4; decide
  have e1 : ∀ x : UInt8, c ≠ x → (x == c) = false := fun x h => by simpa using fun e => h e.symm
  simp [Lib.indexByte, e1 _ h1, e1 _ h2, e1 _ h3, e1 _ h4, h1, h2, h3, h4]
/-- strings.IndexByte of the blanks. -/
theorem bl_index (P : Program) (f : FuncId) (h : ∀ (s : ByteArray) (c : Int) (w : World), Calls P f #[.string s, .int .u8 c] w fun e w' => e = .returned (.int .i64 (Lib.indexByte s.data.toList c.toNat.toUInt8)) ∧ w' = w) (b : UInt8) (w : World) :
    Calls P f #[.string ⟨#[32, 9, 10, 13]⟩, .int .u8 b.toNat] w fun e w' => ∃ n : Int, e = .returned (.int .i64 n) ∧ (if isBl b = true then 0 ≤ n else n = -1) ∧ w' = w := by
  refine (h _ _ w).mono ?_
  rintro e w' ⟨rfl, rfl⟩
  refine ⟨_, rfl, ?_, rfl⟩
  have hb : ((b.toNat : Int).toNat.toUInt8) = b := by simp
  rw [hb]
  obtain ⟨h1, h2⟩ := isBl_index b
  split
  · next h => exact h1 h
  · next h => exact h2 (by simpa using h)
end Go.Proofs.YtmhdcnaibleihaaGreatDoor

/- term: a byte's kinds, the place behind blanks, words, signs. -/
namespace Go.Proofs.YtmhdcnaibleihaaGreatDoor
set_option maxRecDepth 100000
open Go.RowKit
set_option linter.unusedVariables false
set_option linter.unusedSimpArgs false

theorem letterT (c : UInt8) (w : World) : Calls Tryz.prog 38 #[.int .u8 c.toNat] w fun e w' => e = .returned (.bool (isLet c)) ∧ w' = w := by
  refine of_post fun R hR => ?_
  rcases let_iv c with ⟨hc, h1⟩ | ⟨hc, h1, h2⟩ | ⟨hc, h1, h2⟩ | ⟨hc, h1, h2⟩ | ⟨hc, h1⟩
  all_goals
    have HC := Lib.hid hc
    clear hc
    go_enter Tryz.func38, Tryz.ntmps38
    go_wp2_with fail
    exact hR.out _ _ ⟨ret_bb rfl (by rw [HC.out]; first | done | rfl | (simp; omega)), rfl⟩
theorem digitT (c : UInt8) (w : World) : Calls Tryz.prog 73 #[.int .u8 c.toNat] w fun e w' => e = .returned (.bool (isDig c)) ∧ w' = w := by
  refine of_post fun R hR => ?_
  rcases dig_iv c with ⟨hc, h1⟩ | ⟨hc, h1, h2⟩ | ⟨hc, h1⟩
  all_goals
    have HC := Lib.hid hc
    clear hc
    go_enter Tryz.func73, Tryz.ntmps73
    go_wp2_with fail
    exact hR.out _ _ ⟨ret_bb rfl (by rw [HC.out]; first | done | rfl | (simp; omega)), rfl⟩
theorem goesT (c : UInt8) (w : World) : Calls Tryz.prog 39 #[.int .u8 c.toNat] w fun e w' => e = .returned (.bool (isGo c)) ∧ w' = w := by
  refine of_post fun R hR => ?_
  have HL := fun w => Lib.hid (letterT c w)
  have HD := fun w => Lib.hid (digitT c w)
  have HU := Lib.hid (u8_eq c 95)
  have HG : Hid (isGo c = (isLet c || isDig c || c == 95)) := Lib.hid rfl
  generalize isGo c = g at *
  generalize isLet c = a at *
  generalize isDig c = b at *
  go_enter Tryz.func39, Tryz.ntmps39
  cases a <;> cases b
  all_goals
    go_wp2_with (first
      | (go_at_call 38; refine (HL _).out.mono ?_; rintro e w1 ⟨rfl, rfl⟩)
      | (go_at_call 73; refine (HD _).out.mono ?_; rintro e w1 ⟨rfl, rfl⟩))
    exact hR.out _ _ ⟨ret_bb rfl (by rw [HG.out]; first | done | rfl | (rw [HU.out]; rfl) | simp), rfl⟩
set_option maxHeartbeats 1000000 in
theorem aheadT (S : ByteArray) (i : Nat) (pb : Nat) (pl c : Int) (w : World) (hp : PA 55 w pb S i pl c) (hi : i ≤ S.size) (hS : S.size ≤ 100000) :
    Calls Tryz.prog 12 #[.pointer (some ⟨pb, 0, none⟩)] w fun e w' => e = .returned (.int .i64 (blanks (tl S) i)) ∧ w' = w := by
  refine of_post fun R hR => ?_
  have hc := hp.cell
  clear hp
  have HI := fun (b : UInt8) w => Lib.hid (bl_index Tryz.prog 23 (fun s c w => Tryz.strings_IndexByte s c w) b w)
  go_enter Tryz.func12, Tryz.ntmps12
  go_wp2_with fail
  go_loopw [3] (fun iv wr => ∃ j : Nat, iv = .int .i64 j ∧ j ≤ S.size ∧ Hid (blanks (tl S) i = blanks (tl S) j) ∧ wr = w) (fun iv _ => S.size - (intOf iv).toNat)
  case atStart => exact ⟨i, rfl, hi, Lib.hid rfl, rfl⟩
  case round =>
    obtain ⟨j, rfl, hj, HB, rfl⟩ := hrel
    by_cases hlt : j < S.size
    · have HA := Lib.hid (atP_in isBl S j hlt)
      have HN : Hid (atP isBl (tl S) j = true → blanks (tl S) i = blanks (tl S) (j + 1)) := Lib.hid fun h => HB.out.trans (spanW_step _ _ _ h)
      have HZ : Hid (atP isBl (tl S) j = false → blanks (tl S) i = j) := Lib.hid fun h => HB.out.trans (spanW_stop _ _ _ h)
      have HIJ := fun w => Lib.hid (HI S[j] w).out
      clear HB HI
      cases hb : isBl S[j]
      · rw [hb] at HA HIJ
        have HE := Lib.hid (HZ.out HA.out)
        clear hb HN HZ HA
        go_wp2_with (go_at_call 23; refine (HIJ _).out.mono ?_; rintro e w1 ⟨n, rfl, hn, rfl⟩; rw [if_neg (by decide)] at hn; subst hn)
        exact hR.out _ _ ⟨ret_i rfl (by rw [HE.out]), rfl⟩
      · rw [hb] at HA HIJ
        have HE := Lib.hid (HN.out HA.out)
        clear hb HN HZ HA
        go_wp2_with (go_at_call 23; refine (HIJ _).out.mono ?_; rintro e w1 ⟨n, rfl, hn, rfl⟩; rw [if_pos rfl] at hn)
        go_roundw
        case rel => exact ⟨j + 1, by go_num, hlt, HE, trivial⟩
        case measure => simp [intOf]; omega
    · have HE : Hid (blanks (tl S) i = j) := Lib.hid (HB.out.trans (spanW_stop _ _ _ (atP_out isBl S j hlt)))
      clear HB HI
      go_wp2_with fail
      exact hR.out _ _ ⟨ret_i rfl (by rw [HE.out]), rfl⟩
end Go.Proofs.YtmhdcnaibleihaaGreatDoor
