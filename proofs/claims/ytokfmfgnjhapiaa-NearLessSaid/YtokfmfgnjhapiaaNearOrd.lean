/- The order of sequences as the program has it: cmp.Compare, slices.Compare, cmp.Or, draw.Order; slices.Equal. -/
import Derived.Test.YtokfmfgnjhapiaaLess
namespace Go.Proofs.Ytokfmfgnjhapiaa
open Go.RowKit
set_option linter.unusedVariables false
set_option linter.unusedSimpArgs false

def cmpI (a b : Int) : Int := if a < b then -1 else if b < a then 1 else 0
def cmpL : List Int → List Int → Int
  | [], [] => 0
  | [], _ :: _ => -1
  | _ :: _, [] => 1
  | a :: l, b :: m => if a = b then cmpL l m else cmpI a b
def ordL (xs ys : List Int) : Int := if cmpI xs.length ys.length = 0 then cmpL xs ys else cmpI xs.length ys.length

theorem cmpI_zero {a b : Int} : cmpI a b = 0 ↔ a = b := by
  unfold cmpI; split
  · constructor <;> intro h <;> omega
  · split
    · constructor <;> intro h <;> omega
    · constructor <;> intro h <;> omega
theorem cmpI_neg {a b : Int} : cmpI a b < 0 ↔ a < b := by
  unfold cmpI; split
  · simp [*]
  · split
    · constructor <;> intro h <;> omega
    · constructor <;> intro h <;> omega

theorem cmpL_lex : ∀ {xs ys : List Int}, xs.length = ys.length → decide (cmpL xs ys < 0) = lexLt xs ys
  | [], [], _ => rfl
  | [], _ :: _, h => by simp at h
  | _ :: _, [], h => by simp at h
  | a :: l, b :: m, h => by
    simp only [cmpL, lexLt]
    split
    · exact cmpL_lex (by simpa using h)
    · simp only [cmpI_neg]

theorem ordL_less (xs ys : List Int) : decide (ordL xs ys < 0) = lessL xs ys := by
  unfold ordL lessL
  by_cases h : xs.length = ys.length
  · rw [if_pos (cmpI_zero.2 (by omega)), if_pos h, cmpL_lex h]
  · rw [if_neg (fun e => h (by have := cmpI_zero.1 e; omega)), if_neg h]
    rw [Bool.eq_iff_iff]
    simp only [decide_eq_true_eq, cmpI_neg]
    omega

theorem nan_any (a : Int) (w : World) : Calls Try.prog 87 #[.int .i64 a] w fun e w' => e = .returned (.bool false) ∧ w' = w := by
  refine of_post fun R hR => ?_
  have hb : (a != a) = false := by simp
  go_enter Try.func87, Try.ntmps87
  go_wp2_with fail
  exact hR.out _ _ ⟨rfl, rfl⟩

theorem cmpI_any (a b : Int) (w : World) : Calls Try.prog 85 #[.int .i64 a, .int .i64 b] w fun e w' => e = .returned (.int .i64 (cmpI a b)) ∧ w' = w := by
  refine of_post fun R hR => ?_
  have H1 := fun W => Lib.hid (nan_any a W)
  have H2 := fun W => Lib.hid (nan_any b W)
  go_enter Try.func85, Try.ntmps85
  go_wp2_with fail
  refine (H1 _).out.mono ?_
  rintro e w1 ⟨rfl, rfl⟩
  go_wp2_with fail
  refine (H2 _).out.mono ?_
  rintro e w2 ⟨rfl, rfl⟩
  go_wp2_with fail
  · have h : a < b := by assumption
    exact hR.out _ _ ⟨ret_i rfl (by unfold cmpI; rw [if_pos h]), rfl⟩
  · have h : b < a := by assumption
    exact hR.out _ _ ⟨ret_i rfl (by unfold cmpI; rw [if_neg (by omega), if_pos h]), rfl⟩
  · exact hR.out _ _ ⟨ret_i rfl (by unfold cmpI; rw [if_neg (by omega), if_neg (by omega)]), rfl⟩

theorem cmpL_step {xs ys : List Int} {k : Nat} (h1 : k < xs.length) (h2 : k < ys.length) :
    cmpL (xs.drop k) (ys.drop k) = if xs[k]?.getD 0 = ys[k]?.getD 0 then cmpL (xs.drop (k + 1)) (ys.drop (k + 1)) else cmpI (xs[k]?.getD 0) (ys[k]?.getD 0) := by
  rw [List.drop_eq_getElem_cons h1, List.drop_eq_getElem_cons h2, cmpL]
  simp [h1, h2]
theorem cmpL_end1 {xs ys : List Int} {k : Nat} (h1 : k < xs.length) (h2 : ys.length ≤ k) : cmpL (xs.drop k) (ys.drop k) = 1 := by
  rw [List.drop_eq_getElem_cons h1, List.drop_of_length_le h2]; rfl
theorem cmpL_end2 {xs ys : List Int} {k : Nat} (h1 : xs.length ≤ k) (h2 : k < ys.length) : cmpL (xs.drop k) (ys.drop k) = -1 := by
  rw [List.drop_eq_getElem_cons h2, List.drop_of_length_le h1]; rfl
theorem cmpL_end3 {xs ys : List Int} {k : Nat} (h1 : xs.length ≤ k) (h2 : ys.length ≤ k) : cmpL (xs.drop k) (ys.drop k) = 0 := by
  rw [List.drop_of_length_le h1, List.drop_of_length_le h2]; rfl

theorem cmpL_any (A A' : Option Addr) (xs ys : List Int) (n m : Nat) (c c' : Nat) (w : World) (hA : IS w A xs) (hA' : IS w A' ys) (hx : xs.length = n) (hy : ys.length = m) (hn : n ≤ maxLen) (hm : m ≤ maxLen) :
    Calls Try.prog 86 #[.slice A n c, .slice A' m c'] w fun e w' => e = .returned (.int .i64 (cmpL xs ys)) ∧ w' = w := by
  refine of_post fun R hR => ?_
  unfold maxLen at hn hm
  have Hx := Lib.hid hx
  have Hy := Lib.hid hy
  clear hx hy
  have HA := Lib.hid hA
  have HA' := Lib.hid hA'
  clear hA hA'
  have HC := fun a b W => Lib.hid (cmpI_any a b W)
  go_enter Try.func86, Try.ntmps86
  go_wp2_with fail
  go_loopw [11] (fun i wr => ∃ k : Nat, k ≤ n ∧ k ≤ m ∧ i = .int .i64 k ∧ wr = w ∧ Hid (cmpL xs ys = cmpL (xs.drop k) (ys.drop k))) (fun i _ => n - (intOf i).toNat)
  case atStart => exact ⟨0, Nat.zero_le _, Nat.zero_le _, rfl, rfl, Lib.hid rfl⟩
  case round =>
    obtain ⟨k, hk, hkm, rfl, rfl, HL⟩ := hrel
    by_cases hlt : k < n
    · obtain ⟨b, o, rfl, hc⟩ := HA.out (by intro h; have := Hx.out; simp [h] at this; omega)
      have c1 := hc k (by rw [Hx.out]; exact hlt)
      clear hc
      by_cases hlt2 : k < m
      · obtain ⟨b', o', rfl, hc'⟩ := HA'.out (by intro h; have := Hy.out; simp [h] at this; omega)
        have c2 := hc' k (by rw [Hy.out]; exact hlt2)
        clear hc'
        have HS := Lib.hid (cmpL_step (xs := xs) (ys := ys) (k := k) (by rw [Hx.out]; exact hlt) (by rw [Hy.out]; exact hlt2))
        generalize xs[k]?.getD 0 = x at *
        generalize ys[k]?.getD 0 = y at *
        go_wp2_with fail
        refine (HC x y _).out.mono ?_
        rintro e w1 ⟨rfl, rfl⟩
        by_cases hxy : x = y
        · have hz : (cmpI x y != 0) = false := by simp [cmpI_zero.2 hxy]
          have HN := Lib.hid (HL.out.trans (HS.out.trans (if_pos hxy)))
          clear hxy
          go_wp2_with fail
          go_roundw
          case rel => exact ⟨k + 1, by omega, by omega, by go_num, trivial, HN⟩
          case measure => simp [intOf]; omega
        · have hz : (cmpI x y != 0) = true := by simp [cmpI_zero, hxy]
          have HN := Lib.hid (HL.out.trans (HS.out.trans (if_neg hxy)))
          clear hxy
          go_wp2_with fail
          exact hR.out _ _ ⟨ret_i rfl HN.out.symm, rfl⟩
      · obtain rfl : k = m := by omega
        have HN := Lib.hid (HL.out.trans (cmpL_end1 (xs := xs) (ys := ys) (k := k) (by rw [Hx.out]; exact hlt) (by rw [Hy.out]; exact Nat.le_refl _)))
        generalize xs[k]?.getD 0 = x at *
        go_wp2_with fail
        exact hR.out _ _ ⟨ret_i rfl HN.out.symm, rfl⟩
    · obtain rfl : k = n := by omega
      by_cases hlt2 : k < m
      · have HN := Lib.hid (HL.out.trans (cmpL_end2 (xs := xs) (ys := ys) (k := k) (by rw [Hx.out]; exact Nat.le_refl _) (by rw [Hy.out]; exact hlt2)))
        go_wp2_with fail
        exact hR.out _ _ ⟨ret_i rfl HN.out.symm, rfl⟩
      · obtain rfl : k = m := by omega
        have HN := Lib.hid (HL.out.trans (cmpL_end3 (xs := xs) (ys := ys) (k := k) (by rw [Hx.out]; exact Nat.le_refl _) (by rw [Hy.out]; exact Nat.le_refl _)))
        go_wp2_with fail
        exact hR.out _ _ ⟨ret_i rfl HN.out.symm, rfl⟩

def orI (x y : Int) : Int := if x = 0 then y else x
theorem or_any (b o : Nat) (x y : Int) (c : Nat) (w : World) (h0 : w.cell? ⟨b, o, none⟩ = some (.int .i64 x)) (h1 : w.cell? ⟨b, o + 1, none⟩ = some (.int .i64 y)) :
    Calls Try.prog 84 #[.slice (some ⟨b, o, none⟩) 2 c] w fun e w' => e = .returned (.int .i64 (orI x y)) ∧ w' = w := by
  refine of_post fun R hR => ?_
  go_enter Try.func84, Try.ntmps84
  go_wp2_with fail
  go_loopw [8] (fun i wr => ∃ k : Nat, k ≤ 2 ∧ i = .int .i64 k ∧ wr = w ∧ (0 < k → x = 0) ∧ (1 < k → y = 0)) (fun i _ => 2 - (intOf i).toNat)
  case atStart => exact ⟨0, by omega, rfl, rfl, by omega, by omega⟩
  case round =>
    obtain ⟨k, hk, rfl, rfl, hx, hy⟩ := hrel
    rcases (by omega : k = 0 ∨ k = 1 ∨ k = 2) with rfl | rfl | rfl
    · clear hx hy
      go_wp2_with fail
      · have h : (x != 0) = true := by assumption
        exact hR.out _ _ ⟨ret_i rfl (by unfold orI; rw [if_neg (by simpa using h)]), rfl⟩
      · have h : (x != 0) = false := by assumption
        go_roundw
        case rel => exact ⟨1, by omega, by go_num, trivial, fun _ => by simpa using h, by omega⟩
        case measure => simp [intOf]
    · have hx0 := Lib.hid (hx (by omega))
      clear hx hy
      go_wp2_with fail
      · exact hR.out _ _ ⟨ret_i rfl (by unfold orI; rw [if_pos hx0.out]), rfl⟩
      · have h : (y != 0) = false := by assumption
        go_roundw
        case rel => exact ⟨2, by omega, by go_num, trivial, fun _ => hx0.out, fun _ => by simpa using h⟩
        case measure => simp [intOf]
    · have hx0 := Lib.hid (hx (by omega))
      have hy0 := Lib.hid (hy (by omega))
      clear hx hy
      go_wp2_with fail
      exact hR.out _ _ ⟨ret_i rfl (by unfold orI; rw [if_pos hx0.out, hy0.out]), rfl⟩

theorem order_any (A A' : Option Addr) (xs ys : List Int) (n m : Nat) (c c' : Nat) (w : World) (hA : IS w A xs) (hA' : IS w A' ys) (hx : xs.length = n) (hy : ys.length = m) (hn : n ≤ maxLen) (hm : m ≤ maxLen) :
    Calls Try.prog 83 #[.slice A n c, .slice A' m c'] w fun e w' => e = .returned (.int .i64 (ordL xs ys)) ∧ Ext w w' := by
  refine of_post fun R hR => ?_
  have H1 := fun W => Lib.hid (cmpI_any n m W)
  have H2 := Lib.hid (cmpL_any A A' xs ys n m c c' w hA hA' hx hy hn hm)
  have HO : Hid (ordL xs ys = orI (cmpI n m) (cmpL xs ys)) := Lib.hid (by unfold ordL orI; rw [hx, hy])
  clear hA hA' hx hy
  unfold maxLen at hn hm
  go_enter Try.func83, Try.ntmps83
  go_wp2_with fail
  refine (H1 _).out.mono ?_
  rintro e w1 ⟨rfl, rfl⟩
  go_wp2_with fail
  refine H2.out.mono ?_
  rintro e w2 ⟨rfl, rfl⟩
  rw [HO.out] at hR
  generalize cmpI n m = x at *
  generalize cmpL xs ys = y at *
  go_wp2_with fail
  refine (or_any _ _ x y _ _ (by simp) (by simp)).mono ?_
  rintro e w3 ⟨rfl, rfl⟩
  go_wp2_with fail
  exact hR.out _ _ ⟨rfl, (Ext.refl' _).alloc' _⟩
end Go.Proofs.Ytokfmfgnjhapiaa
