/- MutateTurns: turned twice numbers are as they were; what was put in once more and cut out is gone; spliced with themselves they stay: the law returns true for every input, and its arguments read as before.
   Conditions: none but the row's own (what can be read as data). -/
import Derived.Test.YtokfmfgnjhapiaaAwake
import Derived.Test.YtokfmfgnjhapiaaLawInts
namespace Go.Proofs.Ytokfmfgnjhapiaa
open Go.ChangeShapes Go.WideShapes Go.ChangeAt Go.RowKit Go.Joins
set_option linter.unusedVariables false
set_option linter.unusedSimpArgs false

def minI (x y : Int) : Int := if y < x then y else x
def maxI (x y : Int) : Int := if x < y then y else x
theorem min2_i (k k' : IntKind) (x y : Int) : Builtin.min2 (.int k x) (.int k' y) = pure (.int k (minI x y)) := by simp only [Builtin.min2, minI]
theorem max2_i (k k' : IntKind) (x y : Int) : Builtin.max2 (.int k x) (.int k' y) = pure (.int k (maxI x y)) := by simp only [Builtin.max2, maxI, gt_iff_lt]
theorem max_two_i (ats : Array TypeId) (ty : TypeId) (a b : Value) : Builtin.max_ ats ty #[a, b] = (Builtin.max2 a b >>= fun s => pure s) := by simp only [Builtin.max_, List.foldlM_cons, List.foldlM_nil]
theorem min_two_i (ats : Array TypeId) (ty : TypeId) (a b : Value) : Builtin.min_ ats ty #[a, b] = (Builtin.min2 a b >>= fun s => pure s) := by simp only [Builtin.min_, List.foldlM_cons, List.foldlM_nil]
attribute [local go_sem] min2_i max2_i max_two_i min_two_i

theorem turns_long (A : Option Addr) (n c : Nat) (x0 x1 x2 : Int) (w : World) (hn : n ≤ maxLen) (h : 60 < n) :
    Calls Try.prog 4 #[.slice A n c, .agg #[.int .u8 x0, .int .u8 x1, .int .u8 x2]] w fun e w' => e = .returned (.bool true) ∧ Ext w w' := by
  refine of_post fun R hR => ?_
  have HA := fun W => Lib.hid (awake_any W)
  have h' : (60 : Int) < n := by omega
  go_enter Try.func4, Try.ntmps4
  go_wp2_with fail
  refine (HA _).out.mono ?_
  rintro e w1 ⟨rfl, hx⟩
  have HX := Lib.hid (((Ext.refl' w).alloc' _).trans' hx)
  clear hx
  go_wp2_with fail
  refine (HA _).out.mono ?_
  rintro e w2 ⟨rfl, hx⟩
  have HX2 := Lib.hid (HX.out.trans' hx)
  clear hx
  go_wp2_with fail
  exact hR.out _ _ ⟨rfl, HX2.out⟩

theorem do_some {m0 m1 m2 m3 : Int} {xs ys zs : List Int} (h : doF m0 m1 m2 m3 xs ys = some zs) (A B : Option Addr) (n m c d : Nat) (w : World) (hA : CellsAt w A (xs.map I64)) (hB : CellsAt w B (ys.map I64))
    (hx : xs.length = n) (hy : ys.length = m) (hn : n ≤ 1000) (hm : m ≤ 1000) (hc : n ≤ c) (hd : m ≤ d) :
    Calls Try.prog 14 #[.agg #[.int .i64 m0, .int .i64 m1, .int .i64 m2, .int .i64 m3], .slice A n c, .slice B m d] w fun e w' =>
      ∃ g cp, e = .returned (.tuple #[.slice (some ⟨g, 0, none⟩) zs.length cp, .int .i64 0]) ∧ w'.ownsRow w.heap.size 3 1 (.slice (some ⟨g, 0, none⟩) zs.length cp) zs.length (zs.map I64) ∧ Ext w w' := by
  subst hx; subst hy
  exact (do_any m0 m1 m2 m3 A B xs ys c d w hA hB hn hm hc hd).mono fun e w' hD => by rw [h] at hD; exact done_some hD

theorem own_le' {w : World} {base : Nat} {e : TypeId} {size n cp : Nat} {g : Nat} {cs : List Value} (h : w.ownsRow base e size (.slice (some ⟨g, 0, none⟩) n cp) n cs) : n ≤ cp := by
  rcases h.2 with ⟨h1, _⟩ | ⟨g', cap, cur, hv, _, _, hnc, _⟩
  · simp at h1
  · injection hv with h1 h2 h3
    omega

theorem turned_twice (xs : List Int) (i k : Nat) (hik : i ≤ k) (hk : k ≤ xs.length) : turned (turned xs i k) i k = xs := by
  have hl := turned_length xs i k hik hk
  apply List.ext_getElem?
  intro j
  by_cases hj : j < xs.length
  · have h1 := turned_get (turned xs i k) i k j hik (by omega) (by omega)
    have hl2 := turned_length (turned xs i k) i k hik (by omega)
    simp only [List.getD_eq_getElem?_getD] at h1
    rw [List.getElem?_eq_getElem (by omega), List.getElem?_eq_getElem hj]
    rw [List.getElem?_eq_getElem (by omega)] at h1
    simp only [Option.getD_some] at h1
    rw [h1]
    congr 1
    by_cases hb : i ≤ j ∧ j < k
    · rw [if_pos hb]
      have h2 := turned_get xs i k (i + k - 1 - j) hik hk (by omega)
      simp only [List.getD_eq_getElem?_getD] at h2
      rw [h2, if_pos (by omega), show i + k - 1 - (i + k - 1 - j) = j by omega, List.getElem?_eq_getElem hj]; rfl
    · rw [if_neg hb]
      have h2 := turned_get xs i k j hik hk hj
      simp only [List.getD_eq_getElem?_getD] at h2
      rw [h2, if_neg hb, List.getElem?_eq_getElem hj]; rfl
  · rw [List.getElem?_eq_none (by rw [turned_length _ i k hik (by omega)]; omega), List.getElem?_eq_none (by omega)]

set_option maxRecDepth 100000 in
set_option maxHeartbeats 1000000 in
theorem turns_short (A : Option Addr) (xs : List Int) (n c : Nat) (x0 x1 x2 : Nat) (w : World) (hA : IS w A xs) (hx : xs.length = n) (hn : n ≤ 60) (hc : n ≤ c) (h0 : x0 ≤ 255) (h1 : x1 ≤ 255) (h2 : x2 ≤ 255) :
    Calls Try.prog 4 #[.slice A n c, .agg #[.int .u8 x0, .int .u8 x1, .int .u8 x2]] w fun e w' => e = .returned (.bool true) ∧ Ext w w' := by
  refine of_post fun R hR => ?_
  have HW := fun W => Lib.hid (awake_any W)
  have HA := Lib.hid hA
  have Hx := Lib.hid hx
  clear hA hx
  have h' : (n : Int) ≤ 60 := by omega
  have b0 : (0 : Int) ≤ x0 := by omega
  have b1 : (0 : Int) ≤ x1 := by omega
  have b2 : (0 : Int) ≤ x2 := by omega
  have c0 : (x0 : Int) ≤ 255 := by omega
  have c1 : (x1 : Int) ≤ 255 := by omega
  have c2 : (x2 : Int) ≤ 255 := by omega
  go_enter Try.func4, Try.ntmps4
  go_wp2_with fail
  refine (HW _).out.mono ?_
  rintro e w1 ⟨rfl, hx⟩
  have q0 := hx.cell' (p := ⟨w.heap.size, 0, none⟩) (v := .int .u8 x0) (by simp)
  have q1 := hx.cell' (p := ⟨w.heap.size, 1, none⟩) (v := .int .u8 x1) (by simp)
  have q2 := hx.cell' (p := ⟨w.heap.size, 2, none⟩) (v := .int .u8 x2) (by simp)
  have HX := Lib.hid (((Ext.refl' w).alloc' _).trans' hx)
  clear hx
  go_wp2_with fail
  go_quiet (fail)
  obtain ⟨wq, hwq⟩ : ∃ wq : World, wq = w1.drewN nq := ⟨_, rfl⟩
  have HXq := Lib.hid (show Ext w wq by rw [hwq]; exact HX.out.drewN' nq)
  rw [← hwq]
  clear q0 q1 q2 HX hwq
  have hmod : ∀ x : Nat, ∃ a : Nat, (x : Int) % (n + 1) = a ∧ a ≤ n := fun x => ⟨x % (n + 1), by simp, by have := Nat.mod_lt x (show 0 < n + 1 by omega); omega⟩
  obtain ⟨a0, h0, l0⟩ := hmod x0
  obtain ⟨a1, h1, l1⟩ := hmod x1
  obtain ⟨d, h2, l2⟩ := hmod x2
  rw [h0, h1, h2]
  obtain ⟨i, k, hi, hk, hik, hkn⟩ : ∃ i k : Nat, minI a0 a1 = i ∧ maxI a0 a1 = k ∧ i ≤ k ∧ k ≤ n := by
    unfold minI maxI
    by_cases h : a0 ≤ a1
    · by_cases h' : a0 = a1
      · exact ⟨a0, a0, by rw [if_neg (by omega)], by rw [if_neg (by omega)], by omega, by omega⟩
      · exact ⟨a0, a1, by rw [if_neg (by omega)], by rw [if_pos (by omega)], by omega, by omega⟩
    · exact ⟨a1, a0, by rw [if_pos (by omega)], by rw [if_neg (by omega)], by omega, by omega⟩
  clear hmod h0 h1 h2
  -- the five results, each by name, and what they are
  obtain ⟨z1, hz1⟩ : ∃ z1, z1 = turned xs i k := ⟨_, rfl⟩
  obtain ⟨z3, hz3⟩ : ∃ z3, z3 = xs.take d ++ ((xs.drop i).take (k - i) ++ xs.drop d) := ⟨_, rfl⟩
  have Hin := Lib.hid (show i ≤ xs.length ∧ k ≤ xs.length ∧ d ≤ xs.length by rw [Hx.out]; omega)
  have l1 : z1.length = n := by rw [hz1, turned_length xs i k hik Hin.out.2.1, Hx.out]
  have l3 : z3.length = n + (k - i) := by rw [hz3]; have := Hin.out; have := Hx.out; simp; omega
  have e1 : doF 5 i k 0 xs [] = some z1 := by
    rw [hz1]; have := Hin.out; simp [doF]; omega
  have e2 : doF 5 i k 0 z1 [] = some xs := by
    have h := turned_twice xs i k hik Hin.out.2.1
    rw [← hz1] at h
    simp [doF, l1, h]; omega
  have e3 : doF 3 i k d xs [] = some z3 := by
    rw [hz3]; have := Hin.out; simp [doF]; omega
  have e4 : doF 4 d (d + k - i : Int) 0 z3 [] = some xs := by
    have hx4 : (d + k - i : Int).toNat = d + (k - i) := by omega
    have h5 : xs.take d ++ xs.drop d = xs := List.take_append_drop d xs
    have h6 : z3.take d ++ z3.drop (d + (k - i)) = xs := by
      rw [hz3]
      have ha : (xs.take d).length = d := by have := Hin.out; simp; omega
      have hb : ((xs.drop i).take (k - i)).length = k - i := by have := Hin.out; simp; omega
      rw [List.take_append_of_le_length (by omega), List.take_of_length_le (by omega), List.drop_append, List.drop_append, ha, hb, List.drop_of_length_le (by omega), List.drop_of_length_le (by omega)]
      simp
    simp only [doF, show (4 : Int) ≠ 0 by omega, show (4 : Int) ≠ 1 by omega, show (4 : Int) ≠ 2 by omega, show (4 : Int) ≠ 3 by omega, if_false, if_true]
    rw [if_pos ⟨by omega, by omega, by rw [l3]; have := Hin.out; omega⟩, hx4, Int.toNat_natCast, h6]
  have e5 : doF 1 d d 0 xs xs = some xs := by
    have := Hin.out; simp [doF]; omega
  have e6 : doF 2 d 0 0 xs xs = some xs := by
    have := Hin.out; simp [doF]; omega
  have E1 := Lib.hid e1
  have E2 := Lib.hid e2
  have E3 := Lib.hid e3
  have E4 := Lib.hid e4
  have E5 := Lib.hid e5
  have E6 := Lib.hid e6
  have L1 := Lib.hid l1
  have L3 := Lib.hid l3
  clear hz1 hz3 e1 e2 e3 e4 e5 e6 l1 l3
  have HIS : ∀ W, Hid (Ext w W) → Hid (CellsAt W A (xs.map I64)) := fun W hW => Lib.hid (cells_of_IS (HA.out.ext hW.out))
  have hnil : ∀ W, CellsAt W none (([] : List Int).map I64) := fun W => CellsAt.nil _ _
  have HNIL := Lib.hid hnil
  clear hnil
  have f1 : (0 : Int) ≤ d := by omega
  have f2 : (i : Int) ≤ k := by omega
  have f3 : (k : Int) ≤ n := by omega
  have f4 : (d : Int) ≤ n := by omega
  have f5 : (0 : Int) ≤ i := by omega
  go_wp2_with fail
  have HX1 := Lib.hid (HXq.out.alloc' (.cells #[.int .i64 5, .int .i64 i, .int .i64 k, .int .i64 0] 32))
  refine (do_some E1.out A none n 0 c 0 _ (HIS _ HX1).out (HNIL.out _) Hx.out rfl (by omega) (by omega) hc (Nat.le_refl _)).mono ?_
  rintro e w2 ⟨g1, cp1, rfl, ho1, hx1⟩
  rw [L1.out] at ho1 ⊢
  have HX2 := Lib.hid (HX1.out.trans' hx1)
  have t0 := hx1.cell' (p := ⟨wq.heap.size, 0, none⟩) (v := .int .i64 5) (by simp)
  have t1 := hx1.cell' (p := ⟨wq.heap.size, 1, none⟩) (v := .int .i64 i) (by simp)
  have t2 := hx1.cell' (p := ⟨wq.heap.size, 2, none⟩) (v := .int .i64 k) (by simp)
  have t3 := hx1.cell' (p := ⟨wq.heap.size, 3, none⟩) (v := .int .i64 0) (by simp)
  have HO1 := Lib.hid ho1
  clear hx1 ho1
  go_wp2_with fail
  refine (do_some E2.out (some ⟨g1, 0, none⟩) none n 0 cp1 0 _ (cellsAt_of_own HO1.out) (HNIL.out _) L1.out rfl (by omega) (by omega) (own_le' HO1.out) (Nat.le_refl _)).mono ?_
  rintro e w3 ⟨g2, cp2, rfl, ho2, hx2⟩
  rw [Hx.out] at ho2 ⊢
  have HO2 := Lib.hid ho2
  have HX3 := Lib.hid (HX2.out.trans' hx2)
  clear hx2 ho2 t0 t1 t2 t3
  go_wp2_with fail
  refine (do_some E3.out A none n 0 c 0 _ (HIS _ HX3).out (HNIL.out _) Hx.out rfl (by omega) (by omega) hc (Nat.le_refl _)).mono ?_
  rintro e w4 ⟨g3, cp3, rfl, ho3, hx3⟩
  have HO3 := Lib.hid ho3
  have HX34 := Lib.hid hx3
  have HX4 := Lib.hid (HX3.out.trans' hx3)
  clear hx3 ho3
  have l3 : (z3.length : Int) = n + k - i := by rw [L3.out]; omega
  have l3' : z3.length ≤ 1000 := by rw [L3.out]; omega
  generalize hzl : z3.length = m3 at *
  have HZL := Lib.hid hzl
  clear hzl
  go_wp2_with fail
  refine (do_some E4.out (some ⟨g3, 0, none⟩) none m3 0 cp3 0 _ (cellsAt_of_own HO3.out) (HNIL.out _) HZL.out rfl l3' (by omega) (own_le' HO3.out) (Nat.le_refl _)).mono ?_
  rintro e w5 ⟨g4, cp4, rfl, ho4, hx4⟩
  rw [Hx.out] at ho4 ⊢
  have HO4 := Lib.hid ho4
  have HX45 := Lib.hid hx4
  have HX5 := Lib.hid (HX4.out.trans' hx4)
  clear hx4 ho4
  go_wp2_with fail
  refine (do_some E5.out A A n n c c _ (HIS _ HX5).out (HIS _ HX5).out Hx.out Hx.out (by omega) (by omega) hc hc).mono ?_
  rintro e w6 ⟨g5, cp5, rfl, ho5, hx5⟩
  rw [Hx.out] at ho5 ⊢
  have HO5 := Lib.hid ho5
  have HX56 := Lib.hid hx5
  have HX6 := Lib.hid (HX5.out.trans' hx5)
  clear hx5 ho5
  go_wp2_with fail
  refine (do_some E6.out A A n n c c _ (HIS _ HX6).out (HIS _ HX6).out Hx.out Hx.out (by omega) (by omega) hc hc).mono ?_
  rintro e w7 ⟨g6, cp6, rfl, ho6, hx6⟩
  rw [Hx.out] at ho6 ⊢
  have HO6 := Lib.hid ho6
  have HX7 := Lib.hid (HX6.out.trans' hx6)
  have HX37 := Lib.hid (HX34.out.trans' (HX45.out.trans' (HX56.out.trans' hx6)))
  have HX57 := Lib.hid (HX56.out.trans' hx6)
  have HX67 := Lib.hid hx6
  clear hx6 ho6
  have HI : ∀ (base g cp : Nat) (W : World), Hid (W.ownsRow base 3 1 (.slice (some ⟨g, 0, none⟩) n cp) n (xs.map I64)) → Hid (Ext w W) → Hid (Calls Try.prog 16 #[.slice (some ⟨g, 0, none⟩) n cp, .slice A n c] W fun e w' => e = .returned (.bool true) ∧ ∃ q, w' = W.drewN q) := fun base g cp W hO hW => Lib.hid (by
    have h := hO.out
    rw [← Hx.out] at h
    have := ints_any (some ⟨g, 0, none⟩) A xs xs cp c W (IS_of_own h) (HA.out.ext hW.out) (by rw [Hx.out]; unfold maxLen; omega) (by rw [Hx.out]; unfold maxLen; omega)
    rw [Hx.out] at this
    simpa using this)
  go_wp2_with fail
  refine (HI _ g2 cp2 _ (Lib.hid (own_ext HO2.out HX37.out)) HX7).out.mono ?_
  rintro e w8 ⟨rfl, q1, rfl⟩
  go_wp2_with fail
  refine (HI _ g4 cp4 _ (Lib.hid (own_ext HO4.out (HX57.out.drewN' _))) (Lib.hid (HX7.out.drewN' _))).out.mono ?_
  rintro e w9 ⟨rfl, q2, rfl⟩
  go_wp2_with fail
  refine (HI _ g5 cp5 _ (Lib.hid (own_ext HO5.out (HX67.out.drewN' _))) (Lib.hid (HX7.out.drewN' _))).out.mono ?_
  rintro e w10 ⟨rfl, q3, rfl⟩
  go_wp2_with fail
  refine (HI _ g6 cp6 _ (Lib.hid (own_ext HO6.out ((Ext.refl' _).drewN' _))) (Lib.hid (HX7.out.drewN' _))).out.mono ?_
  rintro e w11 ⟨rfl, q4, rfl⟩
  go_wp2_with fail
  exact hR.out _ _ ⟨rfl, HX7.out.drewN' _⟩
end Go.Proofs.Ytokfmfgnjhapiaa
