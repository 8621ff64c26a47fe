/- Numbers' texts, in plain words: figures of four decimal digits put together are the decimal numeral. -/
import Derived.Lib.ItoaNum
import Derived.Lib.ParseIntBTie
import Derived.Lib.Strings
namespace Go.Proofs.YtaigmkpeaenpmaaDoor
set_option maxRecDepth 100000
open Go

def figs (m : Nat) : List Nat := if h : m = 0 then [] else (m % 10000) :: figs (m / 10000)
termination_by m
decreasing_by omega
def inner (more : Bool) : Nat → Nat → List UInt8 → List UInt8
  | 0, _, s => s
  | k + 1, f, s => inner more k (f / 10) (if decide (0 < f) || more then UInt8.ofNat (48 + f % 10) :: s else s)
def outer : List Nat → List UInt8 → List UInt8
  | [], s => s
  | f :: r, s => outer r (inner (!r.isEmpty) 4 f s)

theorem figs_zero : figs 0 = [] := by rw [figs]; simp
theorem figs_pos {m : Nat} (h : 0 < m) : figs m = (m % 10000) :: figs (m / 10000) := by rw [figs, dif_neg (by omega)]
theorem figs_lt : ∀ (m : Nat), ∀ f ∈ figs m, f < 10000 := by
  intro m
  induction m using Nat.strongRecOn with
  | _ m ih =>
    rcases Nat.eq_zero_or_pos m with rfl | h
    · rw [figs_zero]; simp
    · rw [figs_pos h]
      intro f hf
      rcases List.mem_cons.1 hf with rfl | hf
      · exact Nat.mod_lt _ (by decide)
      · exact ih _ (by omega) f hf
theorem figs_len : ∀ (k m : Nat), m < 10000 ^ k → (figs m).length ≤ k
  | 0, m, h => by
    have : m = 0 := by simpa using h
    subst this; rw [figs_zero]; simp
  | k + 1, m, h => by
    rcases Nat.eq_zero_or_pos m with rfl | h0
    · rw [figs_zero]; simp
    · rw [figs_pos h0, List.length_cons]
      have := figs_len k (m / 10000) (by rw [Nat.pow_succ] at h; omega)
      omega
theorem figs_empty {m : Nat} : figs m = [] ↔ m = 0 := by
  constructor
  · intro h
    rcases Nat.eq_zero_or_pos m with h0 | h0
    · exact h0
    · rw [figs_pos h0] at h; cases h
  · rintro rfl; exact figs_zero

theorem dec_small {u : Nat} (h : u < 10) : Lib.decDigits u = [UInt8.ofNat (48 + u)] := by rw [Lib.decDigits, dif_pos h]
theorem dec_big {u : Nat} (h : ¬ u < 10) : Lib.decDigits u = Lib.decDigits (u / 10) ++ [UInt8.ofNat (48 + u % 10)] := by rw [Lib.decDigits, dif_neg h]

theorem inner_last {f : Nat} (h0 : 0 < f) (h : f < 10000) (s : List UInt8) : inner false 4 f s = Lib.decDigits f ++ s := by
  have e1 : f / 10 / 10 = f / 100 := by omega
  have e2 : f / 100 / 10 = f / 1000 := by omega
  simp only [inner, Bool.or_false, decide_eq_true_eq, e1, e2]
  rw [if_pos h0]
  by_cases h1 : f < 10
  · rw [if_neg (by omega : ¬ 0 < f / 1000), if_neg (by omega : ¬ 0 < f / 100), if_neg (by omega : ¬ 0 < f / 10), dec_small h1, Nat.mod_eq_of_lt h1]; rfl
  · rw [dec_big h1, if_pos (by omega : 0 < f / 10)]
    by_cases h2 : f / 10 < 10
    · rw [if_neg (by omega : ¬ 0 < f / 1000), if_neg (by omega : ¬ 0 < f / 100), dec_small h2, Nat.mod_eq_of_lt h2]; rfl
    · rw [dec_big h2, if_pos (by omega : 0 < f / 100), e1]
      by_cases h3 : f / 100 < 10
      · rw [if_neg (by omega : ¬ 0 < f / 1000), dec_small h3, Nat.mod_eq_of_lt h3]; simp
      · rw [dec_big h3, if_pos (by omega : 0 < f / 1000), e2, dec_small (by omega : f / 1000 < 10), Nat.mod_eq_of_lt (by omega : f / 1000 < 10)]; simp
theorem inner_more (f q : Nat) (hq : 0 < q) (hf : f < 10000) (s : List UInt8) : Lib.decDigits q ++ inner true 4 f s = Lib.decDigits (10000 * q + f) ++ s := by
  have e1 : (10000 * q + f) / 10 = 1000 * q + f / 10 := by omega
  have e2 : (1000 * q + f / 10) / 10 = 100 * q + f / 100 := by omega
  have e3 : (100 * q + f / 100) / 10 = 10 * q + f / 1000 := by omega
  have e4 : (10 * q + f / 1000) / 10 = q := by omega
  have m1 : (10000 * q + f) % 10 = f % 10 := by omega
  have m2 : (1000 * q + f / 10) % 10 = f / 10 % 10 := by omega
  have m3 : (100 * q + f / 100) % 10 = f / 10 / 10 % 10 := by omega
  have m4 : (10 * q + f / 1000) % 10 = f / 10 / 10 / 10 % 10 := by omega
  rw [dec_big (by omega : ¬ 10000 * q + f < 10), e1, dec_big (by omega : ¬ 1000 * q + f / 10 < 10), e2, dec_big (by omega : ¬ 100 * q + f / 100 < 10), e3, dec_big (by omega : ¬ 10 * q + f / 1000 < 10), e4, m1, m2, m3, m4]
  simp [inner]
theorem outer_figs : ∀ (m : Nat), 0 < m → ∀ s, outer (figs m) s = Lib.decDigits m ++ s := by
  intro m
  induction m using Nat.strongRecOn with
  | _ m ih =>
    intro h s
    rw [figs_pos h, outer]
    rcases Nat.eq_zero_or_pos (m / 10000) with h0 | h0
    · rw [h0, figs_zero, outer]
      have : m % 10000 = m := by omega
      rw [this]
      exact inner_last h (by omega) s
    · have hn : (figs (m / 10000)).isEmpty = false := by rw [figs_pos h0]; rfl
      rw [hn, ih _ (by omega) h0]
      have := inner_more (m % 10000) (m / 10000) h0 (Nat.mod_lt _ (by decide)) s
      rw [Nat.div_add_mod] at this
      exact this

/-- A number's text, as the document puts it together. -/
def numText (n : Int) : List UInt8 := if n = 0 then [48] else if n < 0 then 45 :: outer (figs n.natAbs) [] else outer (figs n.natAbs) []
theorem numText_itoa (n : Int) : numText n = Lib.itoa n := by
  unfold numText Lib.itoa
  by_cases h : n = 0
  · subst h; rw [if_pos rfl, if_neg (by decide)]; rw [dec_small (by decide)]; rfl
  · rw [if_neg h]
    by_cases h1 : n < 0
    · rw [if_pos h1, if_pos h1, outer_figs _ (by omega), List.append_nil]
    · rw [if_neg h1, if_neg h1, outer_figs _ (by omega), List.append_nil]
      congr 1; omega

def isDig (c : UInt8) : Bool := 48 ≤ c && c ≤ 57
/-- A number's form, behind the sign. -/
def formD (l : List UInt8) : Bool := !l.isEmpty && !(l.head? == some 48 && !(l == [48])) && l.all isDig
def formL (l : List UInt8) : Bool := formD (Lib.trimPrefix l [45])
theorem dig_iff (c : UInt8) : isDig c = true ↔ 48 ≤ c.toNat ∧ c.toNat ≤ 57 := by
  unfold isDig; rw [Bool.and_eq_true, decide_eq_true_iff, decide_eq_true_iff, UInt8.le_iff_toNat_le, UInt8.le_iff_toNat_le]; rfl
theorem dig_nat {d : Nat} (h : d < 10) : (UInt8.ofNat (48 + d)).toNat = 48 + d := by rw [UInt8.toNat_ofNat']; omega

theorem parse_append (l r : List UInt8) : ∀ acc, Lib.parseUint10 acc (l ++ r) = match Lib.parseUint10 acc l with | .ok a => Lib.parseUint10 a r | .syntax => .syntax | .range => .range := by
  induction l with
  | nil => intro acc; rfl
  | cons c l ih =>
    intro acc
    rw [List.cons_append, Lib.parseUint10, Lib.parseUint10]
    split
    · split
      · rfl
      · split
        · rfl
        · exact ih _
    · rfl
theorem parse_dec : ∀ (u : Nat), u < 18446744073709551616 → Lib.parseUint10 0 (Lib.decDigits u) = .ok u := by
  intro u
  induction u using Nat.strongRecOn with
  | _ u ih =>
    intro h
    by_cases h1 : u < 10
    · rw [dec_small h1, Lib.parseUint10, dig_nat h1, if_pos (by omega), if_neg (by omega), if_neg (by omega), Lib.parseUint10]
      congr 1; omega
    · rw [dec_big h1, parse_append, ih (u / 10) (by omega) (by omega)]
      simp only
      have hm : u % 10 < 10 := by omega
      rw [Lib.parseUint10, dig_nat hm, if_pos (by omega), if_neg (by omega), if_neg (by omega), Lib.parseUint10]
      congr 1; omega
theorem dec_ne (u : Nat) : Lib.decDigits u ≠ [] := by
  by_cases h : u < 10
  · rw [dec_small h]; simp
  · rw [dec_big h]; simp
theorem dec_all : ∀ (u : Nat), (Lib.decDigits u).all isDig = true := by
  intro u
  induction u using Nat.strongRecOn with
  | _ u ih =>
    by_cases h : u < 10
    · rw [dec_small h, List.all_cons, List.all_nil, Bool.and_true, dig_iff, dig_nat h]; omega
    · rw [dec_big h, List.all_append, ih _ (by omega), List.all_cons, List.all_nil, Bool.and_true, Bool.true_and, dig_iff, dig_nat (by omega)]; omega
theorem dec_head : ∀ (u : Nat), 0 < u → ∃ c r, Lib.decDigits u = c :: r ∧ c ≠ 48 ∧ isDig c = true := by
  intro u
  induction u using Nat.strongRecOn with
  | _ u ih =>
    intro h0
    by_cases h : u < 10
    · refine ⟨_, [], dec_small h, fun e => ?_, by rw [dig_iff, dig_nat h]; omega⟩
      have := congrArg UInt8.toNat e
      rw [dig_nat h] at this
      have h48 : (48 : UInt8).toNat = 48 := rfl
      omega
    · obtain ⟨c, r, h1, h2, h3⟩ := ih (u / 10) (by omega) (by omega)
      exact ⟨c, r ++ [UInt8.ofNat (48 + u % 10)], by rw [dec_big h, h1]; rfl, h2, h3⟩
theorem dec_first (u : Nat) : ∃ c r, Lib.decDigits u = c :: r ∧ isDig c = true := by
  cases h : Lib.decDigits u with
  | nil => exact absurd h (dec_ne u)
  | cons c r =>
    have := dec_all u
    rw [h, List.all_cons, Bool.and_eq_true] at this
    exact ⟨c, r, rfl, this.1⟩
theorem formD_dec (u : Nat) : formD (Lib.decDigits u) = true := by
  unfold formD
  rw [dec_all u, Bool.and_true]
  rcases Nat.eq_zero_or_pos u with rfl | h
  · rw [dec_small (by decide)]; rfl
  · obtain ⟨c, r, h1, h2, _⟩ := dec_head u h
    rw [h1]
    have : ((c :: r).head? == some 48) = false := by simpa using h2
    rw [this]; rfl
theorem formL_itoa (n : Int) : formL (Lib.itoa n) = true := by
  unfold formL Lib.itoa
  by_cases h : n < 0
  · rw [if_pos h]
    have : Lib.trimPrefix (45 :: Lib.decDigits n.natAbs) [45] = Lib.decDigits n.natAbs := by simp [Lib.trimPrefix, Lib.hasPrefix]
    rw [this]; exact formD_dec _
  · rw [if_neg h]
    obtain ⟨c, r, h1, h2⟩ := dec_first n.toNat
    have hc : c ≠ 45 := fun e => by rw [e] at h2; exact absurd h2 (by decide)
    have : Lib.trimPrefix (Lib.decDigits n.toNat) [45] = Lib.decDigits n.toNat := by
      rw [h1]; unfold Lib.trimPrefix
      rw [if_neg]
      simp [Lib.hasPrefix]; exact fun e => hc e.symm
    rw [this]; exact formD_dec _
theorem parse_itoa (n : Int) (h0 : -9223372036854775808 ≤ n) (h1 : n ≤ 9223372036854775807) : Lib.parseIntB 64 (Lib.itoa n) = .ok n := by
  rw [Lib.parseIntB_64]
  unfold Lib.itoa
  by_cases h : n < 0
  · rw [if_pos h]
    unfold Lib.atoiAll
    have e45 : (45 : UInt8).toNat = 45 := rfl
    simp only [e45, or_true, if_true]
    unfold Lib.parseMag
    rw [if_neg (dec_ne _), parse_dec _ (by omega)]
    simp only [not_true_eq_false, false_and, if_false, true_and]
    rw [if_neg (by omega)]
    congr 1; omega
  · rw [if_neg h]
    obtain ⟨c, r, h2, h3⟩ := dec_first n.toNat
    have hd := (dig_iff c).1 h3
    have hm : Lib.parseMag (c :: r) = .ok n.toNat := by
      unfold Lib.parseMag
      rw [if_neg (by simp), ← h2, parse_dec _ (by omega)]
    rw [h2]
    unfold Lib.atoiAll
    have e1 : ¬ (c.toNat = 43 ∨ c.toNat = 45) := by omega
    have e2 : ¬ c.toNat = 45 := by omega
    dsimp only
    rw [if_neg e1, hm]
    dsimp only
    rw [if_neg (by omega), if_neg (by omega), if_neg e2]
    congr 1; omega
end Go.Proofs.YtaigmkpeaenpmaaDoor
