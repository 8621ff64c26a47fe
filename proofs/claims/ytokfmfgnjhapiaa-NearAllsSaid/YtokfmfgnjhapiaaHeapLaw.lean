/- A heap in plain words: what one step up and one step down leave, over the order of sequences. -/
import Derived.Test.YtokfmfgnjhapiaaLess
namespace Go.Proofs.Ytokfmfgnjhapiaa
open Go.RowKit
set_option linter.unusedVariables false
set_option linter.unusedSimpArgs false

theorem lexLt_asymm : ∀ {a b : List Int}, lexLt a b = true → lexLt b a = false
  | [], [], h => by simp [lexLt] at h
  | [], _ :: _, h => by simp [lexLt] at h
  | _ :: _, [], h => by simp [lexLt] at h
  | x :: a, y :: b, h => by
    simp only [lexLt] at h ⊢
    by_cases e : x = y
    · rw [if_pos e] at h; rw [if_pos e.symm]; exact lexLt_asymm h
    · rw [if_neg e] at h; rw [if_neg (fun k => e k.symm)]
      simp only [decide_eq_true_eq, decide_eq_false_iff_not] at h ⊢
      omega
theorem lexLt_trans : ∀ {a b c : List Int}, lexLt a b = true → lexLt b c = true → lexLt a c = true
  | [], _, _, h, _ => by simp [lexLt] at h
  | _ :: _, [], _, h, _ => by simp [lexLt] at h
  | _ :: _, _ :: _, [], _, h => by simp [lexLt] at h
  | x :: a, y :: b, z :: c, h, k => by
    simp only [lexLt] at h k ⊢
    by_cases e : x = y
    · rw [if_pos e] at h
      by_cases f : y = z
      · rw [if_pos f] at k; rw [if_pos (e.trans f)]; exact lexLt_trans h k
      · rw [if_neg f] at k; rw [if_neg (fun q => f (e.symm.trans q)), e]; exact k
    · rw [if_neg e] at h
      simp only [decide_eq_true_eq] at h
      by_cases f : y = z
      · rw [if_neg (fun q => e (q.trans f.symm)), ← f]; simpa using h
      · rw [if_neg f] at k
        simp only [decide_eq_true_eq] at k
        rw [if_neg (by omega)]
        simp only [decide_eq_true_eq]; omega

theorem lessL_asymm {a b : List Int} (h : lessL a b = true) : lessL b a = false := by
  unfold lessL at h ⊢
  by_cases e : a.length = b.length
  · rw [if_pos e] at h; rw [if_pos e.symm]; exact lexLt_asymm h
  · rw [if_neg e] at h; rw [if_neg (fun q => e q.symm)]
    simp only [decide_eq_true_eq, decide_eq_false_iff_not] at h ⊢; omega
theorem lessL_trans {a b c : List Int} (h : lessL a b = true) (k : lessL b c = true) : lessL a c = true := by
  unfold lessL at h k ⊢
  by_cases e : a.length = b.length
  · rw [if_pos e] at h
    by_cases f : b.length = c.length
    · rw [if_pos f] at k; rw [if_pos (e.trans f)]; exact lexLt_trans h k
    · rw [if_neg f] at k; rw [if_neg (fun q => f (e.symm.trans q)), e]; exact k
  · rw [if_neg e] at h
    simp only [decide_eq_true_eq] at h
    by_cases f : b.length = c.length
    · rw [if_neg (fun q => e (q.trans f.symm)), ← f]; simpa using h
    · rw [if_neg f] at k
      simp only [decide_eq_true_eq] at k
      rw [if_neg (by omega)]
      simp only [decide_eq_true_eq]; omega
theorem lessL_self (a : List Int) : lessL a a = false := by simp [lessL, lexLt_self]
theorem lessL_eq {a b : List Int} (h : lessL a b = false) (k : lessL b a = false) : a = b := by
  have := same_iff a b
  rw [h, k] at this
  simpa using this
/-- 'not ahead of' goes on. -/
theorem le_trans' {a b c : List Int} (h : lessL b a = false) (k : lessL c b = false) : lessL c a = false := by
  cases hca : lessL c a with
  | false => rfl
  | true =>
    cases hab : lessL a b with
    | true => rw [lessL_trans hca hab] at k; cases k
    | false => rw [lessL_eq hab h] at hca; rw [hca] at k; cases k

def par (i : Nat) : Nat := (i - 1) / 2
theorem par_lt {i : Nat} (h : 0 < i) : par i < i := by unfold par; omega
def HeapN (f : Nat → List Int) (n : Nat) : Prop := ∀ i, 0 < i → i < n → lessL (f i) (f (par i)) = false
def UpInv (f : Nat → List Int) (j n : Nat) : Prop :=
  (∀ i, 0 < i → i < n → i ≠ j → lessL (f i) (f (par i)) = false) ∧ (∀ i, 0 < i → i < n → par i = j → 0 < j → lessL (f i) (f (par j)) = false)
def DownInv (f : Nat → List Int) (j n : Nat) : Prop :=
  (∀ i, 0 < i → i < n → par i ≠ j → lessL (f i) (f (par i)) = false) ∧ (∀ i, 0 < i → i < n → par i = j → 0 < j → lessL (f i) (f (par j)) = false)
def sw (f : Nat → List Int) (a b : Nat) : Nat → List Int := fun i => if i = b then f a else if i = a then f b else f i

theorem sw_r (f : Nat → List Int) (a b : Nat) : sw f a b b = f a := by simp [sw]
theorem sw_l (f : Nat → List Int) (a b : Nat) : sw f a b a = f b := by unfold sw; split <;> simp_all
theorem sw_o (f : Nat → List Int) {a b i : Nat} (h : i ≠ a) (k : i ≠ b) : sw f a b i = f i := by simp [sw, h, k]

theorem up_done {f : Nat → List Int} {j n : Nat} (h : UpInv f j n) (hj : j = 0 ∨ lessL (f j) (f (par j)) = false) : HeapN f n := fun i h0 hn => by
  by_cases e : i = j
  · subst e
    rcases hj with rfl | hj
    · omega
    · exact hj
  · exact h.1 i h0 hn e
theorem up_step {f : Nat → List Int} {j n : Nat} (h : UpInv f j n) (h0 : 0 < j) (hn : j < n) (hl : lessL (f j) (f (par j)) = true) : UpInv (sw f (par j) j) (par j) n := by
  have hp := par_lt h0
  refine ⟨fun i hi hin hne => ?_, fun i hi hin hpi hpos => ?_⟩
  · by_cases e : i = j
    · subst e; rw [sw_r, sw_l]; exact lessL_asymm hl
    · rw [sw_o f hne e]
      by_cases e2 : par i = par j
      · rw [e2, sw_l]
        have := h.1 i hi hin e
        rw [e2] at this
        exact le_trans' (lessL_asymm hl) this
      · by_cases e3 : par i = j
        · rw [e3, sw_r]; exact h.2 i hi hin e3 h0
        · rw [sw_o f e2 e3]; exact h.1 i hi hin e
  · have hpp := par_lt hpos
    rw [sw_o f (i := par (par j)) (by omega) (by omega)]
    have hpj := h.1 (par j) hpos (by omega) (by omega)
    by_cases e : i = j
    · subst e; rw [sw_r]; exact hpj
    · have hip := par_lt hi
      rw [sw_o f (by omega) e]
      have := h.1 i hi hin e
      rw [hpi] at this
      exact le_trans' hpj this
theorem down_done {f : Nat → List Int} {j n : Nat} (h : DownInv f j n) (hj : ∀ k, 0 < k → k < n → par k = j → lessL (f k) (f j) = false) : HeapN f n := fun i h0 hn => by
  by_cases e : par i = j
  · rw [e]; exact hj i h0 hn e
  · exact h.1 i h0 hn e
theorem down_step {f : Nat → List Int} {i j n : Nat} (h : DownInv f i n) (hj0 : 0 < j) (hjn : j < n) (hp : par j = i) (hl : lessL (f j) (f i) = true)
    (hm : ∀ k, 0 < k → k < n → par k = i → lessL (f k) (f j) = false) : DownInv (sw f i j) j n := by
  have hij : i < j := by have := par_lt hj0; omega
  refine ⟨fun k hk hkn hne => ?_, fun k hk hkn hpk hpos => ?_⟩
  · by_cases e : k = j
    · subst e; rw [hp, sw_r, sw_l]; exact lessL_asymm hl
    · by_cases e2 : k = i
      · subst e2
        have := par_lt hk
        rw [sw_l, sw_o f (i := par k) (by omega) (by omega)]
        exact h.2 j hj0 hjn hp hk
      · rw [sw_o f e2 e]
        by_cases e3 : par k = i
        · rw [e3, sw_l]; exact hm k hk hkn e3
        · rw [sw_o f e3 hne]; exact h.1 k hk hkn e3
  · have := par_lt hk
    rw [hp, sw_l, sw_o f (by omega) (by omega)]
    have := h.1 k hk hkn (by omega)
    rw [hpk] at this
    exact this
theorem root_least {f : Nat → List Int} {n : Nat} (h : HeapN f n) : ∀ i, i < n → lessL (f i) (f 0) = false := fun i => by
  induction i using Nat.strongRecOn with
  | _ i ih =>
    intro hi
    by_cases h0 : i = 0
    · subst h0; exact lessL_self _
    · have hp := par_lt (i := i) (by omega)
      exact le_trans' (ih (par i) hp (by omega)) (h i (by omega) hi)
end Go.Proofs.Ytokfmfgnjhapiaa
