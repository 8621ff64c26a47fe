/- Where the document's readings end: behind the place where they begin, and in the text. -/
import Derived.Test.YtnpaikdaogikcaaGreatDoorG03
import Derived.Test.YtnpaikdaogikcaaGreatDoorG01
import Derived.Test.YtnpaikdaogikcaaGreatDoorG02
import Derived.Test.YtnpaikdaogikcaaGreatDoorShelf

namespace Go.Proofs.YtnpaikdaogikcaaGreatDoor
set_option maxRecDepth 100000
set_option linter.unusedVariables false
set_option linter.unusedSimpArgs false

theorem takeWhile_len {p : UInt8 → Bool} (l : Bs) : (l.takeWhile p).length ≤ l.length := (List.takeWhile_prefix p).length_le
theorem spanW_ge (p : UInt8 → Bool) (s : Bs) (i : Nat) : i ≤ spanW p s i := by unfold spanW; omega
theorem spanW_le (p : UInt8 → Bool) (s : Bs) (i : Nat) (h : i ≤ s.length) : spanW p s i ≤ s.length := by
  have := takeWhile_len (p := p) (s.drop i)
  rw [List.length_drop] at this
  unfold spanW; omega
theorem spanW_out (p : UInt8 → Bool) (s : Bs) (i : Nat) (h : s.length ≤ i) : spanW p s i = i := by unfold spanW; rw [List.drop_of_length_le h]; rfl
theorem spanW_step (p : UInt8 → Bool) (s : Bs) (i : Nat) (h : atP p s i = true) : spanW p s i = spanW p s (i + 1) := by
  unfold atP at h
  cases hi : s[i]? with
  | none => rw [hi] at h; cases h
  | some c =>
    rw [hi] at h
    have hl := (List.getElem?_eq_some_iff.1 hi).1
    have hc := (List.getElem?_eq_some_iff.1 hi).2
    unfold spanW
    rw [List.drop_eq_getElem_cons hl, hc, List.takeWhile_cons, if_pos h, List.length_cons]
    omega
theorem spanW_stop (p : UInt8 → Bool) (s : Bs) (i : Nat) (h : atP p s i = false) : spanW p s i = i := by
  unfold atP at h
  cases hi : s[i]? with
  | none => exact spanW_out p s i (List.getElem?_eq_none_iff.1 hi)
  | some c =>
    rw [hi] at h
    have hl := (List.getElem?_eq_some_iff.1 hi).1
    have hc := (List.getElem?_eq_some_iff.1 hi).2
    unfold spanW
    rw [List.drop_eq_getElem_cons hl, hc, List.takeWhile_cons]
    simp [h]
theorem atP_lt {p : UInt8 → Bool} {s : Bs} {i : Nat} (h : atP p s i = true) : i < s.length := by
  unfold atP at h
  cases hi : s[i]? with
  | none => rw [hi] at h; cases h
  | some c => exact (List.getElem?_eq_some_iff.1 hi).1
theorem spanW_gt {p : UInt8 → Bool} {s : Bs} {i : Nat} (h : atP p s i = true) : i < spanW p s i := by
  rw [spanW_step p s i h]; exact spanW_ge p s (i + 1)
theorem spanW_end (p : UInt8 → Bool) (s : Bs) (i : Nat) : atP p s (spanW p s i) = false := by
  by_cases h : i < s.length
  · generalize hn : s.length - i = n
    induction n generalizing i with
    | zero => omega
    | succ n ih =>
      cases hp : atP p s i with
      | false => rw [spanW_stop p s i hp]; exact hp
      | true =>
        rw [spanW_step p s i hp]
        by_cases hl : i + 1 < s.length
        · exact ih (i + 1) hl (by omega)
        · rw [spanW_out p s (i + 1) (by omega)]
          unfold atP
          rw [List.getElem?_eq_none (by omega)]
  · rw [spanW_out p s i (by omega)]
    unfold atP
    rw [List.getElem?_eq_none (by omega)]
theorem blanks_ge (s : Bs) (i : Nat) : i ≤ blanks s i := spanW_ge _ _ _
theorem blanks_le (s : Bs) (i : Nat) (h : i ≤ s.length) : blanks s i ≤ s.length := spanW_le _ _ _ h
theorem go_of_let {c : UInt8} (h : isLet c = true) : isGo c = true := by unfold isGo; rw [h]; rfl
theorem atP_mono {p q : UInt8 → Bool} (hi : ∀ c, p c = true → q c = true) {s : Bs} {i : Nat} (h : atP p s i = true) : atP q s i = true := by
  unfold atP at h ⊢
  cases hc : s[i]? with
  | none => rw [hc] at h; cases h
  | some c => rw [hc] at h; exact hi c h
theorem cut_len (s : Bs) (i j : Nat) (h : j ≤ s.length) : (cut s i j).length = j - i := by unfold cut; rw [List.length_take, List.length_drop]; omega
theorem word_ge (s : Bs) (i : Nat) : i ≤ (word s i).2 := by
  unfold word
  split
  · exact Nat.le_trans (blanks_ge s i) (spanW_ge _ _ _)
  · exact Nat.le_refl _
theorem word_le (s : Bs) (i : Nat) (h : i ≤ s.length) : (word s i).2 ≤ s.length := by
  unfold word
  split
  · exact spanW_le _ _ _ (blanks_le s i h)
  · exact h
theorem word_gt {s : Bs} {i : Nat} (h : (word s i).1 ≠ []) : i < (word s i).2 := by
  unfold word at h ⊢
  split at h
  · next hl =>
    rw [if_pos hl]
    exact Nat.lt_of_le_of_lt (blanks_ge s i) (spanW_gt (atP_mono (fun c => go_of_let) hl))
  · exact absurd rfl h
theorem word_ne {s : Bs} {i : Nat} (h : atP isLet s (blanks s i) = true) : (word s i).1 ≠ [] := by
  unfold word
  rw [if_pos h]
  have h1 := spanW_gt (p := isGo) (atP_mono (fun c => go_of_let) h)
  have h2 := spanW_le isGo s (blanks s i) (Nat.le_of_lt (atP_lt h))
  intro e
  have := cut_len s (blanks s i) _ h2
  have e : cut s (blanks s i) (spanW isGo s (blanks s i)) = [] := e
  rw [e] at this
  simp at this; omega
theorem mark_some {s : Bs} {i : Nat} {t : Bs} {e : Nat} (h : mark s i t = some e) : e = blanks s i + t.length ∧ t <+: s.drop (blanks s i) := by
  unfold mark at h
  split at h
  · next hp => cases h; exact ⟨rfl, List.isPrefixOf_iff_prefix.1 hp⟩
  · cases h
theorem mark_le {s : Bs} {i : Nat} {t : Bs} {e : Nat} (h : mark s i t = some e) (hi : i ≤ s.length) : e ≤ s.length := by
  obtain ⟨rfl, hp⟩ := mark_some h
  have := hp.length_le
  rw [List.length_drop] at this
  have := blanks_le s i hi
  omega
theorem mark_ge {s : Bs} {i : Nat} {t : Bs} {e : Nat} (h : mark s i t = some e) : i + t.length ≤ e := by
  obtain ⟨rfl, hp⟩ := mark_some h
  have := blanks_ge s i
  omega
theorem firstPt_len {r : Bs} {n m : Nat} (h : firstPt r = some (n, m)) : 1 ≤ m ∧ m ≤ r.length := by
  unfold firstPt at h
  split at h
  · cases h
  · next hr =>
    split at h
    · cases h
    · simp only [Option.some.injEq] at h
      have hl : 1 ≤ r.length := by cases r <;> simp_all
      have key : ∀ p : Nat × Nat, Utf8.decode ⟨r.toArray⟩ 0 = p → 1 ≤ p.2 ∧ p.2 ≤ r.length := by
        intro p hp
        have hsz : (⟨r.toArray⟩ : ByteArray).size = r.length := by simp [ByteArray.size]
        unfold Utf8.decode at hp
        simp only [hsz] at hp
        split at hp
        · subst hp; exact ⟨Nat.le_refl _, hl⟩
        · split at hp
          · next hc =>
            simp at hc
            split at hp <;> subst hp <;> simp <;> omega
          · split at hp
            · next hc =>
              simp at hc
              split at hp <;> subst hp <;> simp <;> omega
            · split at hp
              · next hc =>
                simp at hc
                split at hp <;> subst hp <;> simp <;> omega
              · subst hp; exact ⟨Nat.le_refl _, hl⟩
      exact key _ h
theorem hexGo_len {k : Nat} {r : Bs} {n d : Nat} (h : hexGo k r n = some d) : k ≤ r.length := by
  induction k generalizing r n with
  | zero => omega
  | succ k ih =>
    cases r with
    | nil => simp [hexGo] at h
    | cons c r =>
      simp only [hexGo] at h
      split at h
      · have := ih h; simp; omega
      · cases h
theorem esc_len {t : Bs} {n m : Nat} (h : esc t = some (n, m)) : 1 ≤ m ∧ m ≤ t.length := by
  unfold esc at h
  split at h
  · cases h
  · next c u =>
    split at h
    · simp at h; simp; omega
    · split at h
      · split at h
        · cases h
        · next d hd =>
          have h4 : 4 ≤ u.length := hexGo_len hd
          split at h
          · simp at h; simp; omega
          · split at h
            · split at h
              · next lo hlo =>
                have h6 : 4 ≤ (u.drop 6).length := hexGo_len hlo
                rw [List.length_drop] at h6
                split at h
                · simp at h; simp; omega
                · cases h
              · cases h
            · cases h
      · cases h
theorem strGo_len {f : Nat} {r : Bs} {acc l : List Nat} {k m : Nat} (h : strGo f r acc k = some (l, m)) : k < m ∧ m ≤ k + r.length := by
  induction f generalizing r acc k with
  | zero => simp [strGo] at h
  | succ f ih =>
    cases r with
    | nil => simp [strGo] at h
    | cons c t =>
      simp only [strGo] at h
      split at h
      · cases h
      · split at h
        · simp at h; simp; omega
        · split at h
          · split at h
            · cases h
            · next n j hj =>
              have := esc_len hj
              have := ih h
              rw [List.length_drop] at this
              simp; omega
          · split at h
            · cases h
            · next n j hj =>
              have := firstPt_len hj
              have := ih h
              rw [List.length_drop] at this
              simp at *; omega
theorem strAt_len {s : Bs} {i : Nat} {t : Bs} {e : Nat} (h : strAt s i = some (t, e)) : i < e ∧ e ≤ max s.length (i + 1) := by
  unfold strAt strOf at h
  split at h
  · next t' k hk =>
    split at hk
    · next l m hm =>
      have := strGo_len hm
      simp at hk h
      rw [List.length_drop, List.length_drop] at this
      omega
    · cases hk
  · cases h
theorem numAt_len {s : Bs} {i : Nat} {b : Bool} {n : Int} {e : Nat} (h : numAt s i b = some (n, e)) : i < e ∧ e ≤ s.length := by
  unfold numAt at h
  extract_lets first e' at h
  have hf : i ≤ first ∧ (first = i ∨ s[i]? = some 45 ∧ first = i + 1) := by
    show i ≤ (if b = true ∧ s[i]? = some 45 then i + 1 else i) ∧ _
    by_cases hc : b = true ∧ s[i]? = some 45
    · rw [if_pos hc]; exact ⟨by omega, .inr ⟨hc.2, by show (if b = true ∧ s[i]? = some 45 then i + 1 else i) = _; rw [if_pos hc]⟩⟩
    · rw [if_neg hc]; exact ⟨Nat.le_refl _, .inl (by show (if b = true ∧ s[i]? = some 45 then i + 1 else i) = _; rw [if_neg hc])⟩
  have hge : first ≤ e' := spanW_ge _ _ _
  split at h
  · cases h
  · next hc =>
    have hne : ¬ e' = first := fun x => hc (.inl x)
    have hlt : first < s.length := by
      rcases Nat.lt_or_ge first s.length with h | h
      · exact h
      · exact absurd (spanW_out isDig s first h) hne
    have hle : e' ≤ s.length := spanW_le _ _ _ (Nat.le_of_lt hlt)
    split at h
    · split at h
      · simp at h; omega
      · cases h
    · split at h
      · simp at h; omega
      · cases h
theorem firstMark_some {s : Bs} {i : Nat} {l : List Bs} {op : Bs} {e : Nat} (h : firstMark s i l = some (op, e)) : op ∈ l ∧ mark s i op = some e := by
  induction l with
  | nil => simp [firstMark] at h
  | cons t l ih =>
    simp only [firstMark] at h
    split at h
    · next hm => simp at h; obtain ⟨rfl, rfl⟩ := h; exact ⟨by simp, hm⟩
    · have := ih h; exact ⟨by simp [this.1], this.2⟩
theorem signs_ne {n : Nat} {op : Bs} (h : op ∈ signsOf n) : op ≠ [] := by
  unfold signsOf at h
  rintro rfl
  split at h <;> simp at h
theorem between_len {s : Bs} {i n : Nat} {op : Bs} {e : Nat} (h : between s i n = some (op, e)) (hi : i ≤ s.length) : i < e ∧ e ≤ s.length := by
  unfold between at h
  split at h
  · split at h
    · next hw =>
      simp only [Option.some.injEq] at h
      have h1 := word_gt (s := s) (i := i) (by rw [hw]; simp)
      have h2 := word_le s i hi
      rw [h] at h1 h2; exact ⟨h1, h2⟩
    · cases h
  · split at h
    · split at h
      · next hw =>
        simp only [Option.some.injEq] at h
        have h1 := word_gt (s := s) (i := i) (by rw [hw]; simp)
        have h2 := word_le s i hi
        rw [h] at h1 h2; exact ⟨h1, h2⟩
      · cases h
    · obtain ⟨hm, hk⟩ := firstMark_some h
      have := mark_ge hk
      have hn := signs_ne hm
      have : 0 < op.length := by cases op <;> simp_all
      exact ⟨by omega, mark_le hk hi⟩
theorem keyAt_len {s : Bs} {i : Nat} {k : Bs} {e : Nat} (h : keyAt s i = some (k, e)) (hi : i ≤ s.length) : i < e ∧ e ≤ s.length := by
  unfold keyAt at h
  split at h
  · next hw =>
    simp only [Option.some.injEq] at h
    have h1 := word_gt hw
    have h2 := word_le s i hi
    rw [h] at h1 h2; exact ⟨h1, h2⟩
  · split at h
    · next hq =>
      have hl : blanks s i < s.length := (List.getElem?_eq_some_iff.1 hq).1
      have := strAt_len h
      have := blanks_ge s i
      omega
    · cases h
end Go.Proofs.YtnpaikdaogikcaaGreatDoor

/- Bytes of texts, words and marks: the plain laws. -/
namespace Go.Proofs.YtnpaikdaogikcaaGreatDoor
set_option maxRecDepth 100000
open Go.RowKit
set_option linter.unusedVariables false
set_option linter.unusedSimpArgs false



abbrev tl (S : ByteArray) : Bs := S.data.toList
theorem tl_len (S : ByteArray) : (tl S).length = S.size := rfl
theorem tl_get (S : ByteArray) (i : Nat) (h : i < S.size) : (tl S)[i]? = some S[i] := by
  rw [List.getElem?_eq_getElem (by simpa using h)]; rfl
theorem atP_in (p : UInt8 → Bool) (S : ByteArray) (i : Nat) (h : i < S.size) : atP p (tl S) i = p S[i] := by
  unfold atP; rw [tl_get S i h]
theorem atP_out (p : UInt8 → Bool) (S : ByteArray) (i : Nat) (h : ¬ i < S.size) : atP p (tl S) i = false := by
  unfold atP; rw [List.getElem?_eq_none (by rw [tl_len]; omega)]
theorem u8_eq (a b : UInt8) : (a == b) = decide ((a.toNat : Int) = b.toNat) := by
  rw [Bool.eq_iff_iff, beq_iff_eq, decide_eq_true_iff]
  constructor
  · rintro rfl; rfl
  · intro h; exact UInt8.toNat_inj.1 (by omega)

theorem results_tmp3 {fn : Func} {t u v : Tmp} (h : fn.results = #[.tmp t, .tmp u, .tmp v]) (tmps : Array Value) (P : Program) (w : World) :
    (results fn tmps).run P w = .ok (.tuple #[tmps.getD t undef, tmps.getD u undef, tmps.getD v undef]) w := by
  simp [results, h]

theorem let_iv (c : UInt8) : (isLet c = false ∧ (c.toNat : Int) < 65) ∨ (isLet c = true ∧ 65 ≤ (c.toNat : Int) ∧ (c.toNat : Int) ≤ 90) ∨ (isLet c = false ∧ 90 < (c.toNat : Int) ∧ (c.toNat : Int) < 97) ∨ (isLet c = true ∧ 97 ≤ (c.toNat : Int) ∧ (c.toNat : Int) ≤ 122) ∨ (isLet c = false ∧ 122 < (c.toNat : Int)) := by
  unfold isLet
  rcases (by omega : c.toNat < 65 ∨ (65 ≤ c.toNat ∧ c.toNat ≤ 90) ∨ (90 < c.toNat ∧ c.toNat < 97) ∨ (97 ≤ c.toNat ∧ c.toNat ≤ 122) ∨ 122 < c.toNat) with h | h | h | h | h
  · exact .inl ⟨by simp; omega, by omega⟩
  · exact .inr (.inl ⟨by simp; omega, by omega, by omega⟩)
  · exact .inr (.inr (.inl ⟨by simp; omega, by omega, by omega⟩))
  · exact .inr (.inr (.inr (.inl ⟨by simp; omega, by omega, by omega⟩)))
  · exact .inr (.inr (.inr (.inr ⟨by simp; omega, by omega⟩)))
theorem dig_no {c : UInt8} (h : ¬ (48 ≤ c.toNat ∧ c.toNat ≤ 57)) : isDig c = false := by
  rw [Bool.eq_false_iff]; exact fun e => h ((dig_iff c).1 e)
theorem dig_iv (c : UInt8) : (isDig c = false ∧ (c.toNat : Int) < 48) ∨ (isDig c = true ∧ 48 ≤ (c.toNat : Int) ∧ (c.toNat : Int) ≤ 57) ∨ (isDig c = false ∧ 57 < (c.toNat : Int)) := by
  rcases (by omega : c.toNat < 48 ∨ (48 ≤ c.toNat ∧ c.toNat ≤ 57) ∨ 57 < c.toNat) with h | h | h
  · exact .inl ⟨dig_no (by omega), by omega⟩
  · exact .inr (.inl ⟨(dig_iff c).2 h, by omega, by omega⟩)
  · exact .inr (.inr ⟨dig_no (by omega), by omega⟩)

theorem atP_or (p q : UInt8 → Bool) (s : Bs) (i : Nat) : atP (fun c => p c || q c) s i = (atP p s i || atP q s i) := by
  unfold atP; cases s[i]? <;> rfl
theorem go_split (s : Bs) (i : Nat) : atP isGo s i = (atP isLet s i || atP isDig s i || atP (· == 95) s i) := by
  rw [← atP_or, ← atP_or]; rfl
theorem bl_split (s : Bs) (i : Nat) : atP isBl s i = (atP (· == 32) s i || atP (· == 9) s i || atP (· == 10) s i || atP (· == 13) s i) := by
  rw [← atP_or, ← atP_or, ← atP_or]; rfl
theorem sv_eq (S : ByteArray) : Value.string S = sv (tl S) := rfl
theorem cut_any (S : ByteArray) (i j : Nat) : (S.extract i j).data.toList = cut (tl S) i j := by
  unfold cut
  simp [ByteArray.data_extract, List.extract]


/-- A place, or below 0. -/
def placeOr (o : Option Nat) : Int := match o with | some e => e | none => -1
theorem beq_tl (a b : ByteArray) : (a.toList == b.toList) = decide (tl a = tl b) := by
  rw [show a.toList = tl a from ByteArray.toList_eq a, show b.toList = tl b from ByteArray.toList_eq b, Bool.eq_iff_iff]; simp
theorem beq_l (K : Bs) (S : ByteArray) : (K == S.toList) = decide (K = tl S) := by
  rw [show S.toList = tl S from ByteArray.toList_eq S, Bool.eq_iff_iff]; simp
theorem tl_inj {a b : ByteArray} (h : tl a = tl b) : a = b := by
  cases a; cases b; simp [tl] at h; subst h; rfl
theorem eq_tl (a b : ByteArray) : (a = b) ↔ tl a = tl b := ⟨fun h => h ▸ rfl, tl_inj⟩

theorem mark_out {s : Bs} {i : Nat} {t : Bs} (hi : i ≤ s.length) (h : s.length < blanks s i + t.length) : mark s i t = none := by
  unfold mark
  rw [if_neg]
  intro hp
  have := (List.isPrefixOf_iff_prefix.1 hp).length_le
  rw [List.length_drop] at this
  have hb := blanks_le s i hi
  have : 0 < t.length := by
    rcases Nat.eq_zero_or_pos t.length with h0 | h0
    · rw [h0] at h
      omega
    · exact h0
  omega
theorem mark_in {s : Bs} {i : Nat} {t : Bs} : mark s i t = if cut s (blanks s i) (blanks s i + t.length) = t then some (blanks s i + t.length) else none := by
  unfold mark cut
  congr 1
  rw [List.isPrefixOf_iff_prefix, List.prefix_iff_eq_take, Nat.add_sub_cancel_left]
  exact propext ⟨fun h => h.symm, fun h => h.symm⟩
theorem among_none {l : List Bs} {w : Bs} (h : ∀ k, k < l.length → l[k]?.getD [] ≠ w) : among l w = false := by
  unfold among
  rw [List.any_eq_false]
  intro k hk
  obtain ⟨n, hn, rfl⟩ := List.mem_iff_getElem.1 hk
  have := h n hn
  rw [List.getElem?_eq_getElem hn] at this
  simpa using this
theorem among_some {l : List Bs} {w : Bs} {j : Nat} (hj : j < l.length) (h : l[j]?.getD [] = w) : among l w = true := by
  unfold among
  rw [List.any_eq_true]
  refine ⟨_, List.getElem_mem hj, ?_⟩
  rw [List.getElem?_eq_getElem hj] at h
  simpa using h
end Go.Proofs.YtnpaikdaogikcaaGreatDoor

/- The program's parser in memory; its signs, words and marks. -/
namespace Go.Proofs.YtnpaikdaogikcaaGreatDoor
set_option maxRecDepth 100000
open Go.RowKit
set_option linter.unusedVariables false
set_option linter.unusedSimpArgs false

/-- A parser's state: its text, the place it is at, the error's place, the error. -/
def PA (t : TypeId) (w : World) (pb : Nat) (S : ByteArray) (i : Nat) (pl c : Int) : Prop := Blk w pb #[.string S, .int .i64 i, .int .i64 pl, .int .i64 c] t
section
variable {t : TypeId} {w w' : World} {pb i : Nat} {S : ByteArray} {pl c : Int}
theorem PA.lt (h : PA t w pb S i pl c) : pb < w.heap.size := Blk.lt h
theorem PA.on (h : PA t w pb S i pl c) (hx : Ext w w') : PA t w' pb S i pl c := Blk.on h hx
theorem PA.cell (h : PA t w pb S i pl c) (k : Nat) : w.cell? ⟨pb, k, none⟩ = (#[.string S, .int .i64 i, .int .i64 pl, .int .i64 c] : Array Value)[k]? := Blk.cell h k
theorem PA.frozen (h : PA t w pb S i pl c) (k : Nat) : w.frozen? ⟨pb, k, none⟩ = false := Blk.frozen h k
theorem PA.set (h : PA t w pb S i pl c) (j : Nat) : PA t (w.setCell ⟨pb, 1, none⟩ (.int .i64 j)) pb S j pl c := Blk.set h _
theorem PA.setc (h : PA t w pb S i pl c) (k : Int) : PA t (w.setCell ⟨pb, 3, none⟩ (.int .i64 k)) pb S i pl k := Blk.set h _
theorem PA.setp (h : PA t w pb S i pl c) (k : Int) : PA t (w.setCell ⟨pb, 2, none⟩ (.int .i64 k)) pb S i k c := Blk.set h _
/-- What a method of the parser leaves: all but its own block, and that one so. -/
structure PM (t : TypeId) (pb : Nat) (S : ByteArray) (j : Nat) (pl c : Int) (w w' : World) : Prop where
  keeps : Keeps (fun b => b = pb) w w'
  at_ : PA t w' pb S j pl c
theorem PM.set {w0 : World} (hx : Keeps (fun b => b = pb) w0 w) (h : PA t w pb S i pl c) (j : Nat) : PM t pb S j pl c w0 (w.setCell ⟨pb, 1, none⟩ (.int .i64 j)) :=
  ⟨Keeps.setCell (S := fun b => b = pb) hx (p := ⟨pb, 1, none⟩) rfl _, h.set j⟩
theorem PM.same (h : PA t w pb S i pl c) : PM t pb S i pl c w w := ⟨Keeps.refl _ _, h⟩
theorem PM.of_ext (h : PA t w pb S i pl c) (hx : Ext w w') : PM t pb S i pl c w w' := ⟨Keeps.of_ext hx, h.on hx⟩
end
theorem isBl_index (c : UInt8) : (isBl c = true → 0 ≤ Lib.indexByte [32, 9, 10, 13] c) ∧ (isBl c = false → Lib.indexByte [32, 9, 10, 13] c = -1) := by
  unfold isBl
  by_cases h1 : c = 32
  · subst h1; decide
  by_cases h2 : c = 9
  · subst h2; decide
  by_cases h3 : c = 10
  · subst h3; decide
  by_cases h4 : c = 13
  · subst h4; decide
  have e1 : ∀ x : UInt8, c ≠ x → (x == c) = false := fun x h => by simpa using fun e => h e.symm
  simp [Lib.indexByte, e1 _ h1, e1 _ h2, e1 _ h3, e1 _ h4, h1, h2, h3, h4]
/-- strings.IndexByte of the blanks. -/
theorem bl_index (P : Program) (f : FuncId) (h : ∀ (s : ByteArray) (c : Int) (w : World), Calls P f #[.string s, .int .u8 c] w fun e w' => e = .returned (.int .i64 (Lib.indexByte s.data.toList c.toNat.toUInt8)) ∧ w' = w) (b : UInt8) (w : World) :
    Calls P f #[.string ⟨#[32, 9, 10, 13]⟩, .int .u8 b.toNat] w fun e w' => ∃ n : Int, e = .returned (.int .i64 n) ∧ (if isBl b = true then 0 ≤ n else n = -1) ∧ w' = w := by
  refine (h _ _ w).mono ?_
  rintro e w' ⟨rfl, rfl⟩
  refine ⟨_, rfl, ?_, rfl⟩
  have hb : ((b.toNat : Int).toNat.toUInt8) = b := by simp
  rw [hb]
  obtain ⟨h1, h2⟩ := isBl_index b
  split
  · next h => exact h1 h
  · next h => exact h2 (by simpa using h)
end Go.Proofs.YtnpaikdaogikcaaGreatDoor
