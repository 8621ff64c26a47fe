/- The document's text of a mutation. -/
import Derived.Test.YtaigmkpeaenpmaaDoorNumOf
namespace Go.Proofs.YtaigmkpeaenpmaaDoor
set_option maxRecDepth 100000
open Go.RowKit
set_option linter.unusedVariables false
set_option linter.unusedSimpArgs false

theorem ret_s {v : Value} {a b : ByteArray} (hv : v = .string a) (h : a = b) : Ending.returned v = .returned (.string b) := by subst hv; rw [h]

def wordK : Nat → List UInt8
  | 0 => [112, 101, 114, 116, 117, 114, 98]
  | 1 => [115, 112, 108, 105, 99, 101]
  | 2 => [99, 114, 111, 115, 115]
  | 3 => [100, 117, 112, 108, 105, 99, 97, 116, 101]
  | 4 => [99, 117, 116]
  | _ => [116, 117, 114, 110]
def numK : Nat → Nat
  | 2 => 1
  | 3 => 3
  | _ => 2
def valsK (k : Nat) (m1 m2 m3 : Int) : List Int := if k = 0 then [m1, m3] else [m1, m2, m3].take (numK k)
def textOf (s : List UInt8) (vs : List Int) : List UInt8 := vs.foldl (fun s v => s ++ 32 :: Lib.itoa v) s
theorem textOf_snoc (s : List UInt8) (vs : List Int) (v : Int) : textOf s (vs ++ [v]) = textOf s vs ++ 32 :: Lib.itoa v := by simp [textOf, List.foldl_append]
theorem itoa_len {n : Int} (h0 : -9223372036854775808 ≤ n) (h1 : n ≤ 9223372036854775807) : (Lib.itoa n).length ≤ 20 := by
  have hd : ∀ (k u : Nat), u < 10 ^ k → (Lib.decDigits u).length ≤ max k 1 := by
    intro k
    induction k with
    | zero => intro u h; rw [dec_small (by simp at h; omega)]; simp
    | succ k ih =>
      intro u h
      by_cases h10 : u < 10
      · rw [dec_small h10]; simp
      · rw [dec_big h10, List.length_append]
        have := ih (u / 10) (by rw [Nat.pow_succ] at h; omega)
        have : k ≠ 0 := by rintro rfl; simp at h; omega
        simp; omega
  unfold Lib.itoa
  split
  · have := hd 19 n.natAbs (by have : (10 : Nat) ^ 19 = 10000000000000000000 := by decide
                               omega)
    simp; omega
  · have := hd 19 n.toNat (by have : (10 : Nat) ^ 19 = 10000000000000000000 := by decide
                              omega)
    omega

set_option maxRecDepth 100000 in
theorem word_ref (k : Nat) (hk : k < 6) (w : World) : Calls Tryd.prog 17 #[.int .i64 k] w fun e w' => e = .returned (.string ⟨(wordK k).toArray⟩) ∧ w' = w := by
  refine of_post fun R hR => ?_
  rcases (by omega : k = 0 ∨ k = 1 ∨ k = 2 ∨ k = 3 ∨ k = 4 ∨ k = 5) with h | h | h | h | h | h
  · subst h
    have hx : ∀ w : World, (Instr.index 73 (.agg #[.string ⟨#[112, 101, 114, 116, 117, 114, 98]⟩, .string ⟨#[115, 112, 108, 105, 99, 101]⟩, .string ⟨#[99, 114, 111, 115, 115]⟩, .string ⟨#[100, 117, 112, 108, 105, 99, 97, 116, 101]⟩, .string ⟨#[99, 117, 116]⟩, .string ⟨#[116, 117, 114, 110]⟩]) (.int .i64 0)).run Tryd.prog w = .ok (.string ⟨#[112, 101, 114, 116, 117, 114, 98]⟩) w := fun _ => by kernel_rfl
    go_enter Tryd.func17, Tryd.ntmps17
    go_wp2_with fail
    exact hR.out _ _ ⟨rfl, rfl⟩
  · subst h
    have hx : ∀ w : World, (Instr.index 73 (.agg #[.string ⟨#[112, 101, 114, 116, 117, 114, 98]⟩, .string ⟨#[115, 112, 108, 105, 99, 101]⟩, .string ⟨#[99, 114, 111, 115, 115]⟩, .string ⟨#[100, 117, 112, 108, 105, 99, 97, 116, 101]⟩, .string ⟨#[99, 117, 116]⟩, .string ⟨#[116, 117, 114, 110]⟩]) (.int .i64 1)).run Tryd.prog w = .ok (.string ⟨#[115, 112, 108, 105, 99, 101]⟩) w := fun _ => by kernel_rfl
    go_enter Tryd.func17, Tryd.ntmps17
    go_wp2_with fail
    exact hR.out _ _ ⟨rfl, rfl⟩
  · subst h
    have hx : ∀ w : World, (Instr.index 73 (.agg #[.string ⟨#[112, 101, 114, 116, 117, 114, 98]⟩, .string ⟨#[115, 112, 108, 105, 99, 101]⟩, .string ⟨#[99, 114, 111, 115, 115]⟩, .string ⟨#[100, 117, 112, 108, 105, 99, 97, 116, 101]⟩, .string ⟨#[99, 117, 116]⟩, .string ⟨#[116, 117, 114, 110]⟩]) (.int .i64 2)).run Tryd.prog w = .ok (.string ⟨#[99, 114, 111, 115, 115]⟩) w := fun _ => by kernel_rfl
    go_enter Tryd.func17, Tryd.ntmps17
    go_wp2_with fail
    exact hR.out _ _ ⟨rfl, rfl⟩
  · subst h
    have hx : ∀ w : World, (Instr.index 73 (.agg #[.string ⟨#[112, 101, 114, 116, 117, 114, 98]⟩, .string ⟨#[115, 112, 108, 105, 99, 101]⟩, .string ⟨#[99, 114, 111, 115, 115]⟩, .string ⟨#[100, 117, 112, 108, 105, 99, 97, 116, 101]⟩, .string ⟨#[99, 117, 116]⟩, .string ⟨#[116, 117, 114, 110]⟩]) (.int .i64 3)).run Tryd.prog w = .ok (.string ⟨#[100, 117, 112, 108, 105, 99, 97, 116, 101]⟩) w := fun _ => by kernel_rfl
    go_enter Tryd.func17, Tryd.ntmps17
    go_wp2_with fail
    exact hR.out _ _ ⟨rfl, rfl⟩
  · subst h
    have hx : ∀ w : World, (Instr.index 73 (.agg #[.string ⟨#[112, 101, 114, 116, 117, 114, 98]⟩, .string ⟨#[115, 112, 108, 105, 99, 101]⟩, .string ⟨#[99, 114, 111, 115, 115]⟩, .string ⟨#[100, 117, 112, 108, 105, 99, 97, 116, 101]⟩, .string ⟨#[99, 117, 116]⟩, .string ⟨#[116, 117, 114, 110]⟩]) (.int .i64 4)).run Tryd.prog w = .ok (.string ⟨#[99, 117, 116]⟩) w := fun _ => by kernel_rfl
    go_enter Tryd.func17, Tryd.ntmps17
    go_wp2_with fail
    exact hR.out _ _ ⟨rfl, rfl⟩
  · subst h
    have hx : ∀ w : World, (Instr.index 73 (.agg #[.string ⟨#[112, 101, 114, 116, 117, 114, 98]⟩, .string ⟨#[115, 112, 108, 105, 99, 101]⟩, .string ⟨#[99, 114, 111, 115, 115]⟩, .string ⟨#[100, 117, 112, 108, 105, 99, 97, 116, 101]⟩, .string ⟨#[99, 117, 116]⟩, .string ⟨#[116, 117, 114, 110]⟩]) (.int .i64 5)).run Tryd.prog w = .ok (.string ⟨#[116, 117, 114, 110]⟩) w := fun _ => by kernel_rfl
    go_enter Tryd.func17, Tryd.ntmps17
    go_wp2_with fail
    exact hR.out _ _ ⟨rfl, rfl⟩

set_option maxRecDepth 100000 in
theorem num_ref (k : Nat) (hk : k < 6) (w : World) : Calls Tryd.prog 18 #[.int .i64 k] w fun e w' => e = .returned (.int .i64 (numK k)) ∧ w' = w := by
  refine of_post fun R hR => ?_
  rcases (by omega : k = 0 ∨ k = 1 ∨ k = 2 ∨ k = 3 ∨ k = 4 ∨ k = 5) with h | h | h | h | h | h
  · subst h
    have hx : ∀ w : World, (Instr.index 74 (.agg #[.int .i64 2, .int .i64 2, .int .i64 1, .int .i64 3, .int .i64 2, .int .i64 2]) (.int .i64 0)).run Tryd.prog w = .ok (.int .i64 2) w := fun _ => by kernel_rfl
    go_enter Tryd.func18, Tryd.ntmps18
    go_wp2_with fail
    exact hR.out _ _ ⟨rfl, rfl⟩
  · subst h
    have hx : ∀ w : World, (Instr.index 74 (.agg #[.int .i64 2, .int .i64 2, .int .i64 1, .int .i64 3, .int .i64 2, .int .i64 2]) (.int .i64 1)).run Tryd.prog w = .ok (.int .i64 2) w := fun _ => by kernel_rfl
    go_enter Tryd.func18, Tryd.ntmps18
    go_wp2_with fail
    exact hR.out _ _ ⟨rfl, rfl⟩
  · subst h
    have hx : ∀ w : World, (Instr.index 74 (.agg #[.int .i64 2, .int .i64 2, .int .i64 1, .int .i64 3, .int .i64 2, .int .i64 2]) (.int .i64 2)).run Tryd.prog w = .ok (.int .i64 1) w := fun _ => by kernel_rfl
    go_enter Tryd.func18, Tryd.ntmps18
    go_wp2_with fail
    exact hR.out _ _ ⟨rfl, rfl⟩
  · subst h
    have hx : ∀ w : World, (Instr.index 74 (.agg #[.int .i64 2, .int .i64 2, .int .i64 1, .int .i64 3, .int .i64 2, .int .i64 2]) (.int .i64 3)).run Tryd.prog w = .ok (.int .i64 3) w := fun _ => by kernel_rfl
    go_enter Tryd.func18, Tryd.ntmps18
    go_wp2_with fail
    exact hR.out _ _ ⟨rfl, rfl⟩
  · subst h
    have hx : ∀ w : World, (Instr.index 74 (.agg #[.int .i64 2, .int .i64 2, .int .i64 1, .int .i64 3, .int .i64 2, .int .i64 2]) (.int .i64 4)).run Tryd.prog w = .ok (.int .i64 2) w := fun _ => by kernel_rfl
    go_enter Tryd.func18, Tryd.ntmps18
    go_wp2_with fail
    exact hR.out _ _ ⟨rfl, rfl⟩
  · subst h
    have hx : ∀ w : World, (Instr.index 74 (.agg #[.int .i64 2, .int .i64 2, .int .i64 1, .int .i64 3, .int .i64 2, .int .i64 2]) (.int .i64 5)).run Tryd.prog w = .ok (.int .i64 2) w := fun _ => by kernel_rfl
    go_enter Tryd.func18, Tryd.ntmps18
    go_wp2_with fail
    exact hR.out _ _ ⟨rfl, rfl⟩

def lsK (k : Nat) (m1 m2 m3 : Int) : List Int := if k = 0 then [m1, m3] else [m1, m2, m3]
theorem vals_ls (k : Nat) (hk : k < 6) (m1 m2 m3 : Int) : valsK k m1 m2 m3 = (lsK k m1 m2 m3).take (numK k) ∧ numK k ≤ (lsK k m1 m2 m3).length := by
  rcases (by omega : k = 0 ∨ k = 1 ∨ k = 2 ∨ k = 3 ∨ k = 4 ∨ k = 5) with h | h | h | h | h | h <;> subst h <;> exact ⟨rfl, by simp [numK, lsK]⟩
theorem num_le (k : Nat) : numK k ≤ 3 := by unfold numK; split <;> omega
theorem word_len (k : Nat) : (wordK k).length ≤ 9 := by unfold wordK; split <;> decide
theorem is_three (w : World) (x y z : Int) (t : TypeId) : IS (w.alloc (.cells #[.int .i64 x, .int .i64 y, .int .i64 z] t)) (some ⟨w.heap.size, 0, none⟩) [x, y, z] := IS_of_cells (cellsAt_new w [I64 x, I64 y, I64 z] t)
theorem is_two' (w : World) (x y : Int) (t : TypeId) : IS (w.alloc (.cells #[.int .i64 x, .int .i64 y] t)) (some ⟨w.heap.size, 0, none⟩) [x, y] := IS_of_cells (cellsAt_new w [I64 x, I64 y] t)

set_option maxRecDepth 100000 in
set_option maxHeartbeats 1000000 in
theorem text_ref (k : Nat) (hk : k < 6) (m1 m2 m3 : Int) (w : World) (hb : ∀ m ∈ [m1, m2, m3], -9223372036854775808 ≤ m ∧ m ≤ 9223372036854775807) :
    Calls Tryd.prog 8 #[.agg #[.int .i64 k, .int .i64 m1, .int .i64 m2, .int .i64 m3]] w fun e w' => e = .returned (.string ⟨(textOf (wordK k) (valsK k m1 m2 m3)).toArray⟩) ∧ Ext w w' := by
  refine of_post fun R hR => ?_
  have HW := fun w => Lib.hid (word_ref k hk w)
  have HNU := fun w => Lib.hid (num_ref k hk w)
  have HVL := Lib.hid (vals_ls k hk m1 m2 m3)
  have hn3 := num_le k
  have HWL := Lib.hid (word_len k)
  have HOF := fun m (h : m ∈ [m1, m2, m3]) w => Lib.hid (ref_of m w (hb m h).1 (hb m h).2)
  have HTX := fun m (h : m ∈ [m1, m2, m3]) v w hv => Lib.hid (ref_text v m w hv (hb m h).1 (hb m h).2)
  have HIL := fun m (h : m ∈ [m1, m2, m3]) => Lib.hid (itoa_len (hb m h).1 (hb m h).2)
  have HLM : Hid (∀ m ∈ lsK k m1 m2 m3, m ∈ [m1, m2, m3]) := Lib.hid fun m hm => by
    unfold lsK at hm; split at hm
    · simp at hm ⊢; rcases hm with h | h <;> simp [h]
    · exact hm
  clear hb
  have hcase : ∃ (W : World) (A : Option Addr) (n : Nat), Hid (Ext w W) ∧ W.cell? ⟨w.heap.size, 0, none⟩ = some (.int .i64 k) ∧ Hid (IS W A (lsK k m1 m2 m3)) ∧ Hid ((lsK k m1 m2 m3).length = n) ∧ n ≤ 3 ∧
      ((k = 0 ∧ n = 2 ∧ W = ((w.alloc (.cells #[.int .i64 k, .int .i64 m1, .int .i64 m2, .int .i64 m3] 23)).alloc (.cells #[.int .i64 m1, .int .i64 m2, .int .i64 m3] 3)).alloc (.cells #[.int .i64 m1, .int .i64 m3] 3) ∧ A = some ⟨w.heap.size + 1 + 1, 0, none⟩) ∨
       (k ≠ 0 ∧ n = 3 ∧ W = (w.alloc (.cells #[.int .i64 k, .int .i64 m1, .int .i64 m2, .int .i64 m3] 23)).alloc (.cells #[.int .i64 m1, .int .i64 m2, .int .i64 m3] 3) ∧ A = some ⟨w.heap.size + 1, 0, none⟩)) := by
    have c0 : (w.alloc (.cells #[.int .i64 k, .int .i64 m1, .int .i64 m2, .int .i64 m3] 23)).cell? ⟨w.heap.size, 0, none⟩ = some (.int .i64 k) := by simp
    by_cases hk0 : k = 0
    · refine ⟨_, _, 2, Lib.hid ?_, ?_, Lib.hid ?_, Lib.hid ?_, by omega, .inl ⟨hk0, rfl, rfl, rfl⟩⟩
      · exact (((Ext.refl' w).alloc' _).alloc' _).alloc' _
      · exact (((Ext.refl' _).alloc' _).alloc' _).cell' c0
      · unfold lsK; rw [if_pos hk0]
        have := is_two' ((w.alloc (.cells #[.int .i64 k, .int .i64 m1, .int .i64 m2, .int .i64 m3] 23)).alloc (.cells #[.int .i64 m1, .int .i64 m2, .int .i64 m3] 3)) m1 m3 3
        simpa using this
      · unfold lsK; rw [if_pos hk0]; rfl
    · refine ⟨_, _, 3, Lib.hid ?_, ?_, Lib.hid ?_, Lib.hid ?_, by omega, .inr ⟨hk0, rfl, rfl, rfl⟩⟩
      · exact ((Ext.refl' w).alloc' _).alloc' _
      · exact ((Ext.refl' _).alloc' _).cell' c0
      · unfold lsK; rw [if_neg hk0]
        have := is_three (w.alloc (.cells #[.int .i64 k, .int .i64 m1, .int .i64 m2, .int .i64 m3] 23)) m1 m2 m3 3
        simpa using this
      · unfold lsK; rw [if_neg hk0]; rfl
  obtain ⟨W, A, n, HX, ck, HI, HLN, hn, hcase⟩ := hcase
  obtain ⟨ls, hls⟩ : ∃ ls, lsK k m1 m2 m3 = ls := ⟨_, rfl⟩
  rw [hls] at HI HLN HLM HVL
  clear hls
  obtain ⟨N, hN⟩ : ∃ N, numK k = N := ⟨_, rfl⟩
  rw [hN] at HNU HVL hn3
  clear hN
  have hNn : N ≤ n := by rw [← HLN.out]; exact HVL.out.2
  rcases hcase with ⟨hk0, hn2, hW, hA⟩ | ⟨hk0, hn2, hW, hA⟩
  all_goals
    have HNN := Lib.hid hn2
    clear hn2
    have hkz : ((k : Int) == 0) = decide (k = 0) := by rw [Bool.eq_iff_iff]; simp
    first | rw [decide_eq_true hk0] at hkz | rw [decide_eq_false hk0] at hkz
    have HK0 := Lib.hid hk0
    have hWE := Lib.hid hW
    have hAE := Lib.hid hA
    have HNE := Lib.hid HNN.out
    clear hk0 hW hA
    go_enter Tryd.func8, Tryd.ntmps8
    go_wp2_with fail
    rw [← hWE.out, ← hAE.out]
    refine (HW W).out.mono ?_
    rintro u w1 ⟨rfl, hw1⟩
    obtain rfl : W = w1 := hw1.symm
    have HWN : Hid ((wordK k).length ≤ 9 ∧ wordK k = textOf (wordK k) (ls.take 0)) := Lib.hid ⟨HWL.out, rfl⟩
    have hwl := HWL.out
    generalize hwk : wordK k = wk at *
    have HWK := Lib.hid hwk
    clear hwk
    go_wp2_with fail
    go_loopw [4, 5] (fun sv iv wr => ∃ (i : Nat) (s : List UInt8), sv = .string ⟨s.toArray⟩ ∧ iv = .int .i64 i ∧ i ≤ N ∧ Hid (s = textOf wk (ls.take i)) ∧ s.length ≤ 9 + 21 * i ∧ Hid (Ext W wr)) (fun _ iv _ => N - (intOf iv).toNat)
    case atStart => exact ⟨0, wk, rfl, rfl, Nat.zero_le _, Lib.hid HWN.out.2, (by omega), Lib.hid (Ext.refl' _)⟩
    case round =>
      obtain ⟨i, s, rfl, rfl, hi, HS, hsl, HXW⟩ := hrel
      have ckr := HXW.out.cell' ck
      go_wp2_with fail
      refine (HNU _).out.mono ?_
      rintro u w2 ⟨rfl, hw2⟩
      obtain rfl : wr = w2 := hw2.symm
      by_cases hlt : i < N
      · have hil : i < ls.length := by rw [HLN.out]; omega
        have hin : (i : Int) < n := by omega
        rw [HNN.out] at hin
        obtain ⟨b, o, hA, hc⟩ := HI.out (by rintro h; rw [h] at hil; simp at hil)
        have c1 := HXW.out.cell' (hc i hil)
        rw [List.getElem?_eq_getElem hil, Option.getD_some] at c1
        subst hA
        have HTK : Hid (ls.take (i + 1) = ls.take i ++ [ls[i]]) := Lib.hid (List.take_succ_eq_append_getElem hil)
        have HM := Lib.hid (HLM.out _ (List.getElem_mem hil))
        have HF := fun w => HOF _ HM.out w
        have HT := fun v w hv => HTX _ HM.out v w hv
        have hil2 := (HIL _ HM.out).out
        clear hc
        generalize ls[i] = x at *
        go_wp2_with fail
        refine (HF _).out.mono ?_
        rintro u w3 ⟨v, rfl, hv, hx3⟩
        have HX3 := Lib.hid (HXW.out.trans' hx3)
        have HT3 := HT v w3 hv
        obtain ⟨A', c', hve, _⟩ := hv
        subst hve
        clear hx3 HT HF
        go_wp2_with fail
        refine HT3.out.mono ?_
        rintro u w4 ⟨rfl, hx4⟩
        have HX4 := Lib.hid (HX3.out.trans' hx4)
        have HS2 : Hid ((⟨s.toArray⟩ : ByteArray) ++ ⟨#[32]⟩ ++ ⟨(Lib.itoa x).toArray⟩ = ⟨(textOf wk (ls.take (i + 1))).toArray⟩) := Lib.hid (by
          rw [HTK.out, textOf_snoc, ← HS.out]; apply ByteArray.ext; simp [ByteArray.data_append])
        have HL2 : Hid ((textOf wk (ls.take (i + 1))).length ≤ 9 + 21 * (i + 1)) := Lib.hid (by rw [HTK.out, textOf_snoc, ← HS.out]; simp; omega)
        clear hx4 HT3
        generalize hit : Lib.itoa x = it at *
        have HIT := Lib.hid hit
        clear hit
        go_wp2_with fail
        go_roundw
        case rel => exact ⟨i + 1, textOf wk (ls.take (i + 1)), (by rw [HS2.out]), (by go_num), (by omega), Lib.hid rfl, HL2.out, HX4⟩
        case measure => simp [intOf]; omega
      · obtain rfl : i = N := by omega
        have HFI : Hid (s = textOf wk (valsK k m1 m2 m3)) := Lib.hid (by rw [HS.out, HVL.out.1])
        go_wp2_with fail
        exact hR.out _ _ ⟨ret_s rfl (by rw [HFI.out]), HX.out.trans' HXW.out⟩
end Go.Proofs.YtaigmkpeaenpmaaDoor
