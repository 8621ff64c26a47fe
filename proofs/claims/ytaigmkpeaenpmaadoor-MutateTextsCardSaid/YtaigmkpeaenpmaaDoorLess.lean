/- Which of two sequences is ahead; whether they are the same. -/
import Derived.Test.YtaigmkpeaenpmaaDoorBase
namespace Go.Proofs.YtaigmkpeaenpmaaDoor
set_option maxRecDepth 100000
open Go.RowKit
set_option linter.unusedVariables false
set_option linter.unusedSimpArgs false

def IS (w : World) (A : Option Addr) (xs : List Int) : Prop :=
  xs ≠ [] → ∃ b o, A = some ⟨b, o, none⟩ ∧ ∀ k, k < xs.length → w.cell? ⟨b, o + k, none⟩ = some (.int .i64 (xs[k]?.getD 0))
theorem IS.ext {w w' : World} {A : Option Addr} {xs : List Int} (h : IS w A xs) (hx : Ext w w') : IS w' A xs := fun hn =>
  let ⟨b, o, e, hc⟩ := h hn
  ⟨b, o, e, fun k hk => hx.cell' (hc k hk)⟩

def lexLt : List Int → List Int → Bool
  | a :: l, b :: m => if a = b then lexLt l m else decide (a < b)
  | _, _ => false
def lessL (xs ys : List Int) : Bool := if xs.length = ys.length then lexLt xs ys else decide (xs.length < ys.length)

theorem lexLt_step {xs ys : List Int} {k : Nat} (h1 : k < xs.length) (h2 : k < ys.length) :
    lexLt (xs.drop k) (ys.drop k) = if xs[k]?.getD 0 = ys[k]?.getD 0 then lexLt (xs.drop (k + 1)) (ys.drop (k + 1)) else decide (xs[k]?.getD 0 < ys[k]?.getD 0) := by
  rw [List.drop_eq_getElem_cons h1, List.drop_eq_getElem_cons h2, lexLt]
  simp [h1, h2]

theorem less_ne (A A' : Option Addr) (n m : Nat) (c c' : Nat) (w : World) (hn : n ≤ maxLen) (hm : m ≤ maxLen) (hne : n ≠ m) :
    Calls Tryd.prog 37 #[.slice A n c, .slice A' m c'] w fun e w' => e = .returned (.bool (decide (n < m))) ∧ w' = w := by
  refine of_post fun R hR => ?_
  unfold maxLen at hn hm
  have hb : ((n : Int) != m) = true := by simp; omega
  clear hne
  go_enter Tryd.func37, Tryd.ntmps37
  go_wp2_with fail
  exact hR.out _ _ ⟨ret_b rfl (by simp), rfl⟩

set_option maxHeartbeats 400000 in
theorem less_eq (A A' : Option Addr) (xs ys : List Int) (n : Nat) (c c' : Nat) (w : World) (hA : IS w A xs) (hA' : IS w A' ys) (hn : n ≤ maxLen) (hx : xs.length = n) (hy : ys.length = n) :
    Calls Tryd.prog 37 #[.slice A n c, .slice A' n c'] w fun e w' => e = .returned (.bool (lexLt xs ys)) ∧ ∃ q, w' = w.drewN q := by
  refine of_post fun R hR => ?_
  unfold maxLen at hn
  have hb : ((n : Int) != n) = false := by simp
  have Hx := Lib.hid hx
  have Hy := Lib.hid hy
  clear hx hy
  have HA := Lib.hid hA
  have HA' := Lib.hid hA'
  clear hA hA'
  go_enter Tryd.func37, Tryd.ntmps37
  go_wp2
  go_loopw [5, 18] (fun _ i wr => ∃ k q : Nat, k ≤ n ∧ i = .int .i64 k ∧ wr = w.drewN q ∧ Hid (lexLt xs ys = lexLt (xs.drop k) (ys.drop k))) (fun _ i _ => n - (intOf i).toNat)
  case atStart => exact ⟨0, 0, Nat.zero_le _, rfl, rfl, Lib.hid rfl⟩
  case round =>
    obtain ⟨k, q, hk, rfl, rfl, HL⟩ := hrel
    by_cases hlt : k < n
    · obtain ⟨b, o, rfl, hc⟩ := HA.out (by intro h; have := Hx.out; simp [h] at this; omega)
      obtain ⟨b', o', rfl, hc'⟩ := HA'.out (by intro h; have := Hy.out; simp [h] at this; omega)
      have c1 := hc k (by rw [Hx.out]; exact hlt)
      have c2 := hc' k (by rw [Hy.out]; exact hlt)
      clear hc hc'
      have hs := lexLt_step (xs := xs) (ys := ys) (k := k) (by rw [Hx.out]; exact hlt) (by rw [Hy.out]; exact hlt)
      have HS := Lib.hid hs
      clear hs
      generalize xs[k]?.getD 0 = x at *
      generalize ys[k]?.getD 0 = y at *
      go_wp2
      go_quiet (fail)
      go_wp2
      · go_quiet (fail)
        have he : (x != y) = true := by assumption
        have hv : decide (x < y) = lexLt xs ys := by rw [HL.out, HS.out, if_neg (by simpa using he)]
        clear he
        go_wp2
        exact hR.out _ _ ⟨ret_bb rfl hv, _, by rw [World.drewN_drewN, World.drewN_drewN]⟩
      · have he : (x != y) = false := by assumption
        go_roundw
        case rel => exact ⟨k + 1, q + nq, by omega, by go_num, rfl, Lib.hid (HL.out.trans (HS.out.trans (if_pos (by simpa using he))))⟩
        case measure => simp [intOf]; omega
    · obtain rfl : k = n := by omega
      have hf : lexLt xs ys = false := by
        rw [HL.out, List.drop_of_length_le (by rw [Hx.out]; exact Nat.le_refl _)]; rfl
      have HF := Lib.hid hf
      clear hf hlt
      go_wp2
      exact hR.out _ _ ⟨ret_bb rfl HF.out.symm, _, rfl⟩
theorem less_any (A A' : Option Addr) (xs ys : List Int) (c c' : Nat) (w : World) (hA : IS w A xs) (hA' : IS w A' ys) (hn : xs.length ≤ maxLen) (hm : ys.length ≤ maxLen) :
    Calls Tryd.prog 37 #[.slice A xs.length c, .slice A' ys.length c'] w fun e w' => e = .returned (.bool (lessL xs ys)) ∧ ∃ q, w' = w.drewN q := by
  by_cases h : xs.length = ys.length
  · rw [← h]
    refine (less_eq A A' xs ys xs.length c c' w hA hA' hn rfl h.symm).mono ?_
    rintro e w' ⟨rfl, hq⟩
    exact ⟨by simp [lessL, h], hq⟩
  · refine (less_ne A A' _ _ c c' w hn hm h).mono ?_
    rintro e w' ⟨rfl, rfl⟩
    exact ⟨by simp [lessL, h], 0, rfl⟩

theorem lexLt_self : ∀ xs : List Int, lexLt xs xs = false
  | [] => rfl
  | a :: l => by simp [lexLt, lexLt_self l]
theorem lexLt_eq : ∀ {xs ys : List Int}, xs.length = ys.length → lexLt xs ys = false → lexLt ys xs = false → xs = ys
  | [], [], _, _, _ => rfl
  | a :: l, b :: m, h, h1, h2 => by
    simp only [lexLt] at h1 h2
    by_cases e : a = b
    · subst e
      simp only [if_true] at h1 h2
      rw [lexLt_eq (by simpa using h) h1 h2]
    · rw [if_neg e] at h1
      rw [if_neg (fun e' => e e'.symm)] at h2
      simp at h1 h2
      omega
theorem same_iff (xs ys : List Int) : (!lessL xs ys && !lessL ys xs) = decide (xs = ys) := by
  by_cases e : xs = ys
  · subst e; simp [lessL, lexLt_self]
  · simp only [e, decide_false]
    by_cases h : xs.length = ys.length
    · cases h1 : lexLt xs ys
      · cases h2 : lexLt ys xs
        · exact absurd (lexLt_eq h h1 h2) e
        · simp [lessL, h, h2]
      · simp [lessL, h, h1]
    · have h' : ys.length ≠ xs.length := fun e => h e.symm
      by_cases hlt : xs.length < ys.length
      · simp [lessL, h, hlt]
      · have : ys.length < xs.length := by omega
        simp [lessL, h', this]

theorem same_any (A A' : Option Addr) (xs ys : List Int) (c c' : Nat) (w : World) (hA : IS w A xs) (hA' : IS w A' ys) (hn : xs.length ≤ maxLen) (hm : ys.length ≤ maxLen) :
    Calls Tryd.prog 21 #[.slice A xs.length c, .slice A' ys.length c'] w fun e w' => e = .returned (.bool (decide (xs = ys))) ∧ ∃ q, w' = w.drewN q := by
  refine of_post fun R hR => ?_
  have h1 := less_any A A' xs ys c c' w hA hA' hn hm
  have h2 := fun q => less_any A' A ys xs c' c (w.drewN q) (hA'.ext ((Ext.refl' w).drewN' q)) (hA.ext ((Ext.refl' w).drewN' q)) hm hn
  have H1 := Lib.hid h1
  have H2 := Lib.hid h2
  have HS := Lib.hid (same_iff xs ys)
  clear h1 h2 hA hA'
  generalize xs.length = n at *
  generalize ys.length = m at *
  cases hb : lessL xs ys
  · go_enter Tryd.func21, Tryd.ntmps21
    go_wp2_with fail
    refine H1.out.mono ?_
    rintro e w' ⟨rfl, q, rfl⟩
    rw [hb]
    go_wp2_with fail
    refine (H2.out q).mono ?_
    rintro e w' ⟨rfl, q', rfl⟩
    go_wp2_with fail
    exact hR.out _ _ ⟨ret_bb rfl (by rw [← HS.out, hb]; rfl), q + q', by simp⟩
  · go_enter Tryd.func21, Tryd.ntmps21
    go_wp2_with fail
    refine H1.out.mono ?_
    rintro e w' ⟨rfl, q, rfl⟩
    rw [hb]
    go_wp2_with fail
    exact hR.out _ _ ⟨ret_bb rfl (by rw [← HS.out, hb]; rfl), q, rfl⟩

theorem ints_any (A A' : Option Addr) (xs ys : List Int) (c c' : Nat) (w : World) (hA : IS w A xs) (hA' : IS w A' ys) (hn : xs.length ≤ maxLen) (hm : ys.length ≤ maxLen) :
    Calls Tryd.prog 10 #[.slice A xs.length c, .slice A' ys.length c'] w fun e w' => e = .returned (.bool (decide (xs = ys))) ∧ ∃ q, w' = w.drewN q := by
  refine of_post fun R hR => ?_
  have H1 := Lib.hid (same_any A A' xs ys c c' w hA hA' hn hm)
  clear hA hA'
  generalize hp : decide (xs = ys) = p at *
  clear hp
  generalize xs.length = n at *
  generalize ys.length = m at *
  go_enter Tryd.func10, Tryd.ntmps10
  go_wp2_with fail
  refine H1.out.mono ?_
  rintro e w' ⟨rfl, q, rfl⟩
  go_wp2_with fail
  exact hR.out _ _ ⟨rfl, q, rfl⟩
end Go.Proofs.YtaigmkpeaenpmaaDoor
