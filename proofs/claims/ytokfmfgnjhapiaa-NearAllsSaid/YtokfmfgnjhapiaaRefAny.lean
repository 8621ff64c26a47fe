/- The document's Do comes to what the program's Do comes to. -/
import Derived.Test.YtokfmfgnjhapiaaRefLoops2
import Derived.Test.YtokfmfgnjhapiaaRefLoops3
import Derived.Test.YtokfmfgnjhapiaaRefLoops4
namespace Go.Proofs.Ytokfmfgnjhapiaa
open Go.RowKit
set_option linter.unusedVariables false
set_option linter.unusedSimpArgs false

theorem gather_single (f : Nat → Int) : ∀ n, gather (fun j => [f j]) n = (List.range n).map f
  | 0 => rfl
  | n + 1 => by rw [gather_succ, gather_single f n, List.range_succ, List.map_append]; rfl
theorem gather_add (g : Nat → List Int) (a : Nat) : ∀ b, gather g (a + b) = gather g a ++ gather (fun j => g (a + j)) b
  | 0 => by simp [gather_zero]
  | b + 1 => by rw [← Nat.add_assoc, gather_succ, gather_add g a b, gather_succ, List.append_assoc]
theorem gather_congr {g h : Nat → List Int} {n : Nat} (e : ∀ j, j < n → g j = h j) : gather g n = gather h n := by
  unfold gather
  rw [List.flatMap_def, List.flatMap_def]
  congr 1
  exact List.map_congr_left fun j hj => e j (by simpa using hj)
theorem gather_none (n : Nat) : gather (fun _ => []) n = [] := by
  induction n with
  | zero => rfl
  | succ n ih => rw [gather_succ, ih]; rfl
theorem gather_take (xs : List Int) (i : Nat) (h : i ≤ xs.length) : gather (fun j => [xs[j]?.getD 0]) i = xs.take i := by
  rw [gather_single]
  apply List.ext_getElem?
  intro j
  rw [List.getElem?_map, List.getElem?_take]
  by_cases hj : j < i
  · rw [if_pos hj, List.getElem?_range hj]
    simp [List.getElem?_eq_getElem (show j < xs.length by omega)]
  · rw [if_neg hj, List.getElem?_eq_none (by simpa using hj)]; rfl
theorem gather_drop (ys : List Int) (f : Nat) (h : f ≤ ys.length) : gather (fun j => [ys[f + j]?.getD 0]) (ys.length - f) = ys.drop f := by
  have := gather_take (ys.drop f) (ys.drop f).length (Nat.le_refl _)
  rw [List.take_length, List.length_drop] at this
  rw [← this]
  exact gather_congr fun j _ => by rw [List.getElem?_drop]
theorem gather_mid (xs : List Int) (i k : Nat) (hik : i ≤ k) (h : k ≤ xs.length) : gather (fun j => [xs[i + j]?.getD 0]) (k - i) = (xs.drop i).take (k - i) := by
  rw [← gather_take (xs.drop i) (k - i) (by simp; omega)]
  exact gather_congr fun j _ => by rw [List.getElem?_drop]

theorem gather_set (xs : List Int) (i d : Int) (h0 : 0 ≤ i) : gather (fun (j : Nat) => [if (j : Int) = i then d else xs[j]?.getD 0]) xs.length = xs.set i.toNat d := by
  rw [gather_single]
  apply List.ext_getElem?
  intro j
  rw [List.getElem?_map, List.getElem?_set]
  by_cases hj : j < xs.length
  · rw [List.getElem?_range hj]
    simp only [Option.map_some]
    by_cases hi : (j : Int) = i
    · rw [if_pos hi, if_pos (by omega), if_pos (by omega)]
    · rw [if_neg hi, if_neg (by omega), List.getElem?_eq_getElem hj]; rfl
  · rw [List.getElem?_eq_none (by simpa using hj), List.getElem?_eq_none (by omega)]
    by_cases hi : i.toNat = j
    · rw [if_pos hi, if_neg (by omega)]; rfl
    · rw [if_neg hi]; rfl

theorem gather_dup (xs : List Int) (i k d : Nat) (hik : i ≤ k) (hk : k ≤ xs.length) (hd : d ≤ xs.length) :
    gather (dupG xs i k d xs.length) (xs.length + 1) = xs.take d ++ ((xs.drop i).take (k - i) ++ xs.drop d) := by
  have e : xs.length + 1 = d + (1 + (xs.length - d)) := by omega
  rw [e, gather_add, gather_add]
  have h1 : gather (dupG xs i k d xs.length) d = xs.take d := by
    rw [← gather_take xs d hd]
    exact gather_congr fun j hj => by unfold dupG; rw [if_neg (by omega), if_pos (by omega)]; rfl
  rw [h1]
  congr 1
  have h2 : gather (fun j => dupG xs i k d xs.length (d + j)) 1 = (xs.drop i).take (k - i) ++ (if d < xs.length then [xs[d]?.getD 0] else []) := by
    rw [gather_succ, gather_zero, List.nil_append, Nat.add_zero]
    unfold dupG
    rw [if_pos rfl, gather_mid xs i k hik hk]
  rw [h2, List.append_assoc]
  congr 1
  by_cases hlt : d < xs.length
  · rw [if_pos hlt, ← gather_drop xs d hd]
    obtain ⟨q, hq⟩ : ∃ q, xs.length - d = 1 + q := ⟨xs.length - d - 1, by omega⟩
    rw [hq, gather_add (fun j => [xs[d + j]?.getD 0])]
    congr 1
    rw [show 1 + q = q + 1 by omega, gather_succ]
    have hlast : dupG xs i k d xs.length (d + (1 + q)) = [] := by
      unfold dupG; rw [if_neg (by omega), if_neg (by omega)]; rfl
    rw [hlast, List.append_nil]
    exact gather_congr fun j hj => by unfold dupG; rw [if_neg (by omega), if_pos (by omega)]; rfl
  · rw [if_neg hlt, List.drop_of_length_le (by omega), show xs.length - d = 0 by omega]; rfl

theorem gather_three (g : Nat → List Int) (i k n : Nat) (hik : i ≤ k) (hk : k ≤ n) : gather g n = gather g i ++ (gather (fun j => g (i + j)) (k - i) ++ gather (fun j => g (k + j)) (n - k)) := by
  have e : n = i + ((k - i) + (n - k)) := by omega
  conv => lhs; rw [e]
  rw [gather_add, gather_add]
  congr 2
  exact gather_congr fun j _ => by congr 1; omega

theorem gather_cut (xs : List Int) (i k : Nat) (hik : i ≤ k) (hk : k ≤ xs.length) :
    gather (fun j => if j < i ∨ k ≤ j then [xs[j]?.getD 0] else []) xs.length = xs.take i ++ xs.drop k := by
  rw [gather_three _ i k _ hik hk, ← gather_take xs i (by omega), ← gather_drop xs k hk]
  congr 1
  · exact gather_congr fun j hj => by rw [if_pos (by omega)]
  · have h1 : gather (fun j => if i + j < i ∨ k ≤ i + j then [xs[i + j]?.getD 0] else []) (k - i) = [] :=
      (gather_congr (h := fun _ => []) fun j hj => by rw [if_neg (by omega)]).trans (gather_none _)
    rw [h1, List.nil_append]
    exact gather_congr fun j hj => by rw [if_pos (by omega)]

theorem gather_turn (xs : List Int) (i k : Nat) (hik : i ≤ k) (hk : k ≤ xs.length) :
    gather (fun j => if j < i ∨ k ≤ j then [xs[j]?.getD 0] else [xs[i + k - 1 - j]?.getD 0]) xs.length = turned xs i k := by
  have e : gather (fun j => if j < i ∨ k ≤ j then [xs[j]?.getD 0] else [xs[i + k - 1 - j]?.getD 0]) xs.length = gather (fun j => [(turned xs i k)[j]?.getD 0]) xs.length := by
    refine gather_congr fun j hj => ?_
    have h := turned_get xs i k j hik hk hj
    simp only [List.getD_eq_getElem?_getD] at h
    rw [h]
    by_cases h1 : j < i ∨ k ≤ j
    · rw [if_pos h1, if_neg (by omega)]
    · rw [if_neg h1, if_pos (by omega)]
  rw [e]
  have h2 := gather_take (turned xs i k) xs.length (by rw [turned_length xs i k hik hk]; exact Nat.le_refl _)
  rw [h2, List.take_of_length_le (by rw [turned_length xs i k hik hk]; exact Nat.le_refl _)]

/-- What the document's Do hands back. -/
def RDone (w : World) (r : Option (List Int)) (code : Int) (e : Ending) (w' : World) : Prop :=
  match r with
  | none => RefNone w code e w'
  | some zs => RefDone w zs e w'

theorem doF_none {m0 m1 m2 m3 : Int} {xs ys : List Int} (h : ¬ mayP m0 m1 m2 m3 xs.length ys.length) : doF m0 m1 m2 m3 xs ys = none := by
  unfold mayP at h
  unfold doF
  by_cases h0 : m0 = 0
  · rw [if_pos h0, if_neg (by omega)]
  · rw [if_neg h0]
    by_cases h1 : m0 = 1
    · rw [if_pos h1, if_neg (by omega)]
    · rw [if_neg h1]
      by_cases h2 : m0 = 2
      · rw [if_pos h2, if_neg (by omega)]
      · rw [if_neg h2]
        by_cases h3 : m0 = 3
        · rw [if_pos h3, if_neg (by omega)]
        · rw [if_neg h3]
          by_cases h4 : m0 = 4
          · rw [if_pos h4, if_neg (by omega)]
          · rw [if_neg h4]
            by_cases h5 : m0 = 5
            · rw [if_pos h5, if_neg (by omega)]
            · rw [if_neg h5]

theorem ref_any (m0 m1 m2 m3 : Int) (A B : Option Addr) (xs ys : List Int) (c d : Nat) (w : World) (hA : IS w A xs) (hB : IS w B ys) (hn : xs.length ≤ 1000) (hm : ys.length ≤ 1000) :
    Calls Try.prog 15 #[.agg #[.int .i64 m0, .int .i64 m1, .int .i64 m2, .int .i64 m3], .slice A xs.length c, .slice B ys.length d] w (RDone w (doF m0 m1 m2 m3 xs ys) (doCode m0)) := by
  by_cases h : 0 ≤ m0 ∧ m0 < 6
  · have hcode : doCode m0 = 8 := if_pos h
    rw [hcode]
    by_cases hmay : mayP m0 m1 m2 m3 xs.length ys.length
    · have hcs : m0 = 0 ∨ m0 = 1 ∨ m0 = 2 ∨ m0 = 3 ∨ m0 = 4 ∨ m0 = 5 := by omega
      rcases hcs with rfl | rfl | rfl | rfl | rfl | rfl
      · have hk : 0 ≤ m1 ∧ m1 < xs.length ∧ 0 ≤ m3 ∧ m3 < 4294967296 := by unfold mayP at hmay; omega
        simp only [doF, if_pos hk, if_true]
        rw [← gather_set xs m1 m3 hk.1]
        exact ref_do0 m1 m3 m2 A B xs _ _ c d w hA rfl hn hm hmay
      · have hk : 0 ≤ m1 ∧ m1 ≤ xs.length ∧ 0 ≤ m2 ∧ m2 ≤ ys.length := by unfold mayP at hmay; omega
        simp only [doF, if_pos hk, if_true, show (1 : Int) ≠ 0 by omega, if_false]
        obtain ⟨i, rfl⟩ := Int.eq_ofNat_of_zero_le hk.1
        obtain ⟨k, rfl⟩ := Int.eq_ofNat_of_zero_le hk.2.2.1
        simp only [Int.toNat_natCast]
        rw [← gather_take xs i (by omega), ← gather_drop ys k (by omega)]
        exact ref_do1 i k m3 A B xs ys _ _ c d w hA hB rfl rfl hn hm (by omega) (by omega)
      · have hk : 0 ≤ m1 ∧ m1 ≤ xs.length ∧ 0 ≤ m1 ∧ m1 ≤ ys.length := by unfold mayP at hmay; omega
        simp only [doF, if_pos hk, if_true, show (2 : Int) ≠ 0 by omega, show (2 : Int) ≠ 1 by omega, if_false]
        obtain ⟨i, rfl⟩ := Int.eq_ofNat_of_zero_le hk.1
        simp only [Int.toNat_natCast]
        rw [← gather_take xs i (by omega), ← gather_drop ys i (by omega)]
        exact ref_do2 i m2 m3 A B xs ys _ _ c d w hA hB rfl rfl hn hm (by omega) (by omega)
      · have hk : 0 ≤ m1 ∧ m1 ≤ m2 ∧ m2 ≤ xs.length ∧ 0 ≤ m3 ∧ m3 ≤ xs.length := by unfold mayP at hmay; omega
        simp only [doF, if_pos hk, if_true, show (3 : Int) ≠ 0 by omega, show (3 : Int) ≠ 1 by omega, show (3 : Int) ≠ 2 by omega, if_false]
        obtain ⟨i, rfl⟩ := Int.eq_ofNat_of_zero_le hk.1
        obtain ⟨k, rfl⟩ := Int.eq_ofNat_of_zero_le (show 0 ≤ m2 by omega)
        obtain ⟨p, rfl⟩ := Int.eq_ofNat_of_zero_le hk.2.2.2.1
        simp only [Int.toNat_natCast]
        rw [← gather_dup xs i k p (by omega) (by omega) (by omega)]
        exact ref_do3 i k p A B xs _ _ c d w hA rfl hn hm (by omega) (by omega) (by omega)
      · have hk : 0 ≤ m1 ∧ m1 ≤ m2 ∧ m2 ≤ xs.length := by unfold mayP at hmay; omega
        simp only [doF, if_pos hk, if_true, show (4 : Int) ≠ 0 by omega, show (4 : Int) ≠ 1 by omega, show (4 : Int) ≠ 2 by omega, show (4 : Int) ≠ 3 by omega, if_false]
        obtain ⟨i, rfl⟩ := Int.eq_ofNat_of_zero_le hk.1
        obtain ⟨k, rfl⟩ := Int.eq_ofNat_of_zero_le (show 0 ≤ m2 by omega)
        simp only [Int.toNat_natCast]
        rw [← gather_cut xs i k (by omega) (by omega)]
        exact ref_do4 i k m3 A B xs _ _ c d w hA rfl hn hm (by omega) (by omega)
      · have hk : 0 ≤ m1 ∧ m1 ≤ m2 ∧ m2 ≤ xs.length := by unfold mayP at hmay; omega
        simp only [doF, if_pos hk, if_true, show (5 : Int) ≠ 0 by omega, show (5 : Int) ≠ 1 by omega, show (5 : Int) ≠ 2 by omega, show (5 : Int) ≠ 3 by omega, show (5 : Int) ≠ 4 by omega, if_false]
        obtain ⟨i, rfl⟩ := Int.eq_ofNat_of_zero_le hk.1
        obtain ⟨k, rfl⟩ := Int.eq_ofNat_of_zero_le (show 0 ≤ m2 by omega)
        simp only [Int.toNat_natCast]
        rw [← gather_turn xs i k (by omega) (by omega)]
        exact ref_do5 i k m3 A B xs _ _ c d w hA rfl hn hm (by omega) (by omega)
    · rw [doF_none hmay]
      exact ref_no m0 m1 m2 m3 A B _ _ c d w h.1 (by omega) hn hm hmay
  · have hcode : doCode m0 = 9 := if_neg h
    have hf : doF m0 m1 m2 m3 xs ys = none := by
      unfold doF
      rw [if_neg (by omega), if_neg (by omega), if_neg (by omega), if_neg (by omega), if_neg (by omega), if_neg (by omega)]
    rw [hcode, hf]
    exact ref_kind m0 m1 m2 m3 A B _ _ c d w h
end Go.Proofs.Ytokfmfgnjhapiaa
