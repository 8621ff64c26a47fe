/- The document's readings end, and read on. -/
import Derived.Test.YtnpaikdaogikcaaGreatDoorG04

namespace Go.Proofs.YtnpaikdaogikcaaGreatDoor
set_option maxRecDepth 100000
set_option linter.unusedVariables false
set_option linter.unusedSimpArgs false

theorem ER.on_ok {α β : Type} {r : Option (Option (α × Nat))} {k : α → Nat → Option (Option (β × Nat))} {y : β} {e : Nat} (h : ER.on r k = some (some (y, e))) : ∃ x a, r = some (some (x, a)) ∧ k x a = some (some (y, e)) := by
  unfold ER.on at h
  split at h
  · cases h
  · cases h
  · exact ⟨_, _, rfl, h⟩
theorem ER.on_ne {α β : Type} {r : Option (Option (α × Nat))} {k : α → Nat → Option (Option (β × Nat))} (hr : r ≠ none) (hk : ∀ x a, r = some (some (x, a)) → k x a ≠ none) : ER.on r k ≠ none := by
  unfold ER.on
  split
  · exact fun _ => hr rfl
  · simp
  · exact hk _ _ rfl
theorem orFail_ok {α β : Type} {o : Option α} {k : α → Option (Option (β × Nat))} {y : β} {e : Nat} (h : orFail o k = some (some (y, e))) : ∃ a, o = some a ∧ k a = some (some (y, e)) := by
  unfold orFail at h
  split at h
  · cases h
  · exact ⟨_, rfl, h⟩
theorem orFail_ne {α β : Type} {o : Option α} {k : α → Option (Option (β × Nat))} (hk : ∀ a, o = some a → k a ≠ none) : orFail o k ≠ none := by
  unfold orFail
  split
  · simp
  · exact hk _ rfl

def EG.pos : EG → Nat
  | .level i _ => i
  | .chain _ i _ => i
  | .part _ i => i
  | .one i => i
  | .call _ _ i => i
def EG.strict : EG → Bool
  | .chain .. => false
  | .part .. => false
  | _ => true
theorem numLit_len {s : Bs} {i : Nat} {x : E} {e : Nat} (h : numLit s i = some (some (x, e))) : i < e ∧ e ≤ s.length := by
  unfold numLit at h
  split at h
  · simp at h
  · next hn =>
    split at h
    · simp at h
    · simp at h; exact h.2 ▸ numAt_len hn
theorem parseE_len (s : Bs) : ∀ (f : Nat) (g : EG) (x : E) (e : Nat), parseE s f g = some (some (x, e)) → g.pos ≤ s.length → (g.pos ≤ e ∧ (g.strict = true → g.pos < e)) ∧ e ≤ s.length := by
  intro f
  induction f with
  | zero => intro g x e h; simp [parseE] at h
  | succ f ih =>
    intro g x e h hi
    cases g with
    | level i n =>
      simp only [EG.pos] at hi
      suffices i < e ∧ e ≤ s.length from ⟨⟨Nat.le_of_lt this.1, fun _ => this.1⟩, this.2⟩
      simp only [parseE] at h
      split at h
      · split at h
        · next hw =>
          obtain ⟨y, a, hy, hk⟩ := ER.on_ok h
          have h1 := word_gt (s := s) (i := i) (by rw [hw]; simp)
          have h2 := ih _ _ _ hy (word_le s i hi)
          simp [EG.pos, EG.strict] at h2 hk
          omega
        · have := ih _ _ _ h hi
          simp [EG.pos, EG.strict] at this; omega
      · split at h
        · split at h
          · next e1 hm =>
            obtain ⟨y, a, hy, hk⟩ := ER.on_ok h
            have h1 := mark_ge hm
            have h2 := ih _ _ _ hy (mark_le hm hi)
            simp [EG.pos, EG.strict] at h1 h2 hk
            omega
          · obtain ⟨y, a, hy, hk⟩ := ER.on_ok h
            have h2 := ih _ _ _ hy hi
            have h3 := ih _ _ _ hk h2.2
            simp [EG.pos, EG.strict] at h2 h3; omega
        · obtain ⟨y, a, hy, hk⟩ := ER.on_ok h
          have h2 := ih _ _ _ hy hi
          have h3 := ih _ _ _ hk h2.2
          simp [EG.pos, EG.strict] at h2 h3; omega
    | chain y i n =>
      simp only [EG.pos] at hi
      suffices i ≤ e ∧ e ≤ s.length from ⟨⟨this.1, fun h => by simp [EG.strict] at h⟩, this.2⟩
      simp only [parseE] at h
      split at h
      · simp at h; omega
      · next op e1 hb =>
        obtain ⟨z, a, hz, hk⟩ := ER.on_ok h
        have h1 := between_len hb hi
        have h2 := ih _ _ _ hz h1.2
        simp [EG.pos, EG.strict] at h2
        split at hk
        · simp at hk; omega
        · have h3 := ih _ _ _ hk h2.2
          simp [EG.pos, EG.strict] at h3; omega
    | part y i =>
      simp only [EG.pos] at hi
      suffices i ≤ e ∧ e ≤ s.length from ⟨⟨this.1, fun h => by simp [EG.strict] at h⟩, this.2⟩
      simp only [parseE] at h
      split at h
      · next e1 hm =>
        have h1 := mark_ge hm
        have h1' := mark_le hm hi
        split at h
        · simp at h
        · next k e2 hk =>
          have h2 := keyAt_len hk h1'
          have h3 := ih _ _ _ h h2.2
          simp [EG.pos, EG.strict] at h3; omega
      · split at h
        · simp at h; omega
        · next e1 hm =>
          have h1 := mark_ge hm
          have h1' := mark_le hm hi
          obtain ⟨z, a, hz, hk⟩ := ER.on_ok h
          have h2 := ih _ _ _ hz h1'
          simp [EG.pos, EG.strict] at h2
          split at hk
          · simp at hk
          · next e3 hm3 =>
            have h4 := mark_ge hm3
            have h4' := mark_le hm3 h2.2
            have h3 := ih _ _ _ hk h4'
            simp [EG.pos, EG.strict] at h3; omega
    | one i =>
      simp only [EG.pos] at hi
      suffices i < e ∧ e ≤ s.length from ⟨⟨Nat.le_of_lt this.1, fun _ => this.1⟩, this.2⟩
      have hb := blanks_ge s i
      simp only [parseE] at h
      split at h
      · have := numLit_len h; omega
      · split at h
        · next hq =>
          have hl := (List.getElem?_eq_some_iff.1 hq).1
          cases hs : strAt s (blanks s i) with
          | none => rw [hs] at h; simp at h
          | some p =>
            rw [hs] at h; simp at h
            have := strAt_len (t := p.1) (e := p.2) hs
            omega
        · split at h
          · next e1 hm =>
            have h1 := mark_ge hm
            have h1' := mark_le hm hi
            obtain ⟨z, a, hz, hk⟩ := ER.on_ok h
            have h2 := ih _ _ _ hz h1'
            cases hm2 : mark s a [41] with
            | none => rw [hm2] at hk; simp at hk
            | some e3 =>
              rw [hm2] at hk; simp at hk
              have h4 := mark_ge hm2
              have h4' := mark_le hm2 h2.2
              simp [EG.pos, EG.strict] at h2; omega
          · split at h
            · simp at h
            · next hw =>
              have hw1 : (word s i).1 ≠ [] := fun x => hw (.inl x)
              have h1 := word_gt hw1
              have h1' := word_le s i hi
              have fin : ∀ {y : E}, (some (some (y, (word s i).2)) : ER) = some (some (x, e)) → i < e ∧ e ≤ s.length := by
                intro y hy; simp at hy; omega
              split at h
              · exact fin h
              · split at h
                · exact fin h
                · split at h
                  · exact fin h
                  · split at h
                    · exact fin h
                    · split at h
                      · split at h
                        · simp at h
                        · next e1 hm =>
                          have h2 := mark_ge hm
                          have h2' := mark_le hm h1'
                          have h3 := ih _ _ _ h h2'
                          simp [EG.pos, EG.strict] at h3; omega
                      · exact fin h
    | call name args i =>
      simp only [EG.pos] at hi
      suffices i < e ∧ e ≤ s.length from ⟨⟨Nat.le_of_lt this.1, fun _ => this.1⟩, this.2⟩
      simp only [parseE] at h
      obtain ⟨z, a, hz, hk⟩ := ER.on_ok h
      have h2 := ih _ _ _ hz hi
      simp [EG.pos, EG.strict] at h2
      split at hk
      · next e1 hm =>
        have h1 := mark_ge hm
        have h1' := mark_le hm h2.2
        split at hk <;> simp at hk
        omega
      · split at hk
        · simp at hk
        · next e1 hm =>
          have h1 := mark_ge hm
          have h1' := mark_le hm h2.2
          split at hk
          · simp at hk
          · have h3 := ih _ _ _ hk h1'
            simp [EG.pos, EG.strict] at h3; omega

def EG.need (L : Nat) : EG → Nat
  | .level i n => 16 * (L + 1 - i) + (8 - n)
  | .chain _ i _ => 16 * (L + 1 - i) + 1
  | .part _ i => 16 * (L + 1 - i) + 1
  | .one i => 16 * (L + 1 - i) + 1
  | .call _ _ i => 16 * (L + 1 - i) + 9
def EG.ok : EG → Prop
  | .level _ n => n ≤ 6
  | .chain _ _ n => n < 6
  | _ => True
theorem parseE_ends (s : Bs) : ∀ (f : Nat) (g : EG), g.pos ≤ s.length → g.ok → g.need s.length ≤ f → parseE s f g ≠ none := by
  intro f
  induction f with
  | zero =>
    intro g hi ho hn
    cases g <;> simp only [EG.need, EG.pos] at hn hi <;> omega
  | succ f ih =>
    intro g hi ho hn
    cases g with
    | level i n =>
      simp only [EG.pos] at hi; simp only [EG.need] at hn; simp only [EG.ok] at ho
      simp only [parseE]
      split
      · split
        · next hw =>
          have h1 := word_gt (s := s) (i := i) (by rw [hw]; simp)
          have h2 := word_le s i hi
          exact ER.on_ne (ih _ h2 (by simp [EG.ok]) (by simp only [EG.need]; omega)) fun x a _ => by simp
        · exact ih _ hi (by simp [EG.ok]) (by simp only [EG.need]; omega)
      · split
        · split
          · next e1 hm =>
            have h1 := mark_ge hm
            have h2 := mark_le hm hi
            simp at h1
            exact ER.on_ne (ih _ h2 (by simp [EG.ok]) (by simp only [EG.need]; omega)) fun x a _ => by simp
          · refine ER.on_ne (ih _ hi (by simp [EG.ok]) (by simp only [EG.need]; omega)) fun x a hx => ?_
            have := parseE_len s _ _ _ _ hx hi
            simp [EG.pos, EG.strict] at this
            exact ih _ this.2 (by simp [EG.ok]) (by simp only [EG.need]; omega)
        · refine ER.on_ne (ih _ hi (by simp only [EG.ok]; omega) (by simp only [EG.need]; omega)) fun x a hx => ?_
          have := parseE_len s _ _ _ _ hx hi
          simp [EG.pos, EG.strict] at this
          exact ih _ this.2 (by simp only [EG.ok]; omega) (by simp only [EG.need]; omega)
    | chain y i n =>
      simp only [EG.pos] at hi; simp only [EG.need] at hn; simp only [EG.ok] at ho
      simp only [parseE]
      split
      · simp
      · next op e1 hb =>
        have h1 := between_len hb hi
        refine ER.on_ne (ih _ h1.2 (by simp only [EG.ok]; omega) (by simp only [EG.need]; omega)) fun x a hx => ?_
        have := parseE_len s _ _ _ _ hx h1.2
        simp [EG.pos, EG.strict] at this
        split
        · simp
        · exact ih _ this.2 (by simp only [EG.ok]; omega) (by simp only [EG.need]; omega)
    | part y i =>
      simp only [EG.pos] at hi; simp only [EG.need] at hn
      simp only [parseE]
      split
      · next e1 hm =>
        have h1 := mark_ge hm
        have h1' := mark_le hm hi
        split
        · simp
        · next k e2 hk =>
          have h2 := keyAt_len hk h1'
          exact ih _ h2.2 (by simp [EG.ok]) (by simp only [EG.need]; omega)
      · split
        · simp
        · next e1 hm =>
          have h1 := mark_ge hm
          have h1' := mark_le hm hi
          simp at h1
          refine ER.on_ne (ih _ h1' (by simp [EG.ok]) (by simp only [EG.need]; omega)) fun x a hx => ?_
          have := parseE_len s _ _ _ _ hx h1'
          simp [EG.pos, EG.strict] at this
          split
          · simp
          · next e3 hm3 =>
            have h4 := mark_ge hm3
            have h4' := mark_le hm3 this.2
            exact ih _ h4' (by simp [EG.ok]) (by simp only [EG.need]; omega)
    | one i =>
      simp only [EG.pos] at hi; simp only [EG.need] at hn
      simp only [parseE]
      split
      · simp [numLit]
      · split
        · simp
        · split
          · next e1 hm =>
            have h1 := mark_ge hm
            have h1' := mark_le hm hi
            simp at h1
            exact ER.on_ne (ih _ h1' (by simp [EG.ok]) (by simp only [EG.need]; omega)) fun x a hx => by simp
          · split
            · simp
            · next hw =>
              have hw1 : (word s i).1 ≠ [] := fun x => hw (.inl x)
              have h1 := word_gt hw1
              have h1' := word_le s i hi
              repeat' split
              all_goals first
                | (simp; done)
                | (next e1 hm =>
                    have h2 := mark_ge hm
                    have h2' := mark_le hm h1'
                    exact ih _ h2' (by simp [EG.ok]) (by simp only [EG.need]; omega))
    | call name args i =>
      simp only [EG.pos] at hi; simp only [EG.need] at hn
      simp only [parseE]
      refine ER.on_ne (ih _ hi (by simp [EG.ok]) (by simp only [EG.need]; omega)) fun x a hx => ?_
      have := parseE_len s _ _ _ _ hx hi
      simp [EG.pos, EG.strict] at this
      split
      · simp
      · split
        · simp
        · next e1 hm =>
          have h1 := mark_ge hm
          have h1' := mark_le hm this.2
          split
          · simp
          · exact ih _ h1' (by simp [EG.ok]) (by simp only [EG.need]; omega)
theorem prefixE_len {s : Bs} {f i : Nat} {x : E} {e : Nat} (h : prefixE s f i = some (some (x, e))) (hi : i ≤ s.length) : i < e ∧ e ≤ s.length := by
  obtain ⟨y, a, hy, hk⟩ := ER.on_ok h
  have := parseE_len s _ _ _ _ hy hi
  simp [EG.pos, EG.strict] at this
  split at hk <;> simp at hk
  omega
theorem prefixE_ends (s : Bs) (f i : Nat) (hi : i ≤ s.length) (hf : 16 * (s.length + 1) + 8 ≤ f) : prefixE s f i ≠ none :=
  ER.on_ne (parseE_ends s f _ hi (by simp [EG.ok]) (by simp only [EG.need]; omega)) fun x a _ => by simp
theorem isoOne_len {s : Bs} {i : Nat} {x : I} {e : Nat} (h : isoOne s i = some (x, e)) (hi : i ≤ s.length) : i < e ∧ e ≤ s.length := by
  have hw : (word s i).1 ≠ [] := by
    intro hw; unfold isoOne at h; rw [hw] at h; simp [isoUses, among] at h
  have h1 := word_gt hw
  have h1' := word_le s i hi
  have h2 := blanks_ge s (word s i).2
  unfold isoOne at h
  split at h
  · cases h
  · simp at h; omega
  · split at h
    · cases h
    · next n e1 hn =>
      have := numAt_len hn
      split at h
      · cases h
      · simp at h; omega
  · split at h
    · next hq =>
      have hl := (List.getElem?_eq_some_iff.1 hq).1
      cases hs : strAt s (blanks s (word s i).2) with
      | none => rw [hs] at h; simp at h
      | some p =>
        rw [hs] at h; simp at h
        have := strAt_len (t := p.1) (e := p.2) hs
        omega
    · cases h
theorem isosAt_len {s : Bs} {f : Nat} {acc l : List I} {i e : Nat} (h : isosAt s f acc i = some (some (l, e))) (hi : i ≤ s.length) : i < e ∧ e ≤ s.length := by
  induction f generalizing acc i with
  | zero => simp [isosAt] at h
  | succ f ih =>
    simp only [isosAt] at h
    split at h
    · simp at h
    · next x e1 ho =>
      have h1 := isoOne_len ho hi
      split at h
      · simp at h; omega
      · next e2 hm =>
        have h2 := mark_ge hm
        have := ih h (mark_le hm h1.2)
        omega
theorem isosAt_ends (s : Bs) (f : Nat) (acc : List I) (i : Nat) (hi : i ≤ s.length) (hf : s.length + 1 - i ≤ f) : isosAt s f acc i ≠ none := by
  induction f generalizing acc i with
  | zero => omega
  | succ f ih =>
    simp only [isosAt]
    split
    · simp
    · next x e1 ho =>
      have h1 := isoOne_len ho hi
      split
      · simp
      · next e2 hm =>
        have h2 := mark_ge hm
        have h3 := mark_le hm h1.2
        exact ih _ _ h3 (by omega)
end Go.Proofs.YtnpaikdaogikcaaGreatDoor

/- The document's readings of terms, and of definitions, end, and read on. -/
namespace Go.Proofs.YtnpaikdaogikcaaGreatDoor
set_option maxRecDepth 100000
set_option linter.unusedVariables false
set_option linter.unusedSimpArgs false

def TG.pos : TG → Nat
  | .term i => i
  | .tuple _ i => i
  | .record _ _ i => i
  | .pick _ _ i => i
theorem textAt_len {s : Bs} {i : Nat} {t : Bs} {e : Nat} (h : textAt s i = some (t, e)) : i < e ∧ e ≤ s.length := by
  unfold textAt at h
  split at h
  · next hq =>
    have hl : blanks s i < s.length := (List.getElem?_eq_some_iff.1 hq).1
    have := strAt_len h
    have := blanks_ge s i
    omega
  · cases h
theorem justAt_len {s : Bs} {i : Nat} {x : T} {e : Nat} (h : justAt s i = some (x, e)) (hi : i ≤ s.length) : i < e ∧ e ≤ s.length := by
  have hb := blanks_ge s i
  unfold justAt at h
  have fin : ∀ {y : T} {k : Bs}, (word s i).1 = k → k ≠ [] → some (y, (word s i).2) = some (x, e) → i < e ∧ e ≤ s.length := by
    intro y k hk hn hy
    have h1 := word_gt (s := s) (i := i) (by rw [hk]; exact hn)
    have h1' := word_le s i hi
    simp at hy; omega
  split at h
  · next hw => exact fin hw (by simp) h
  · split at h
    · next hw => exact fin hw (by simp) h
    · split at h
      · next hw => exact fin hw (by simp) h
      · split at h
        · cases hn : numAt s (blanks s i) true with
          | none => rw [hn] at h; simp at h
          | some p =>
            rw [hn] at h; simp at h
            have := numAt_len (n := p.1) (e := p.2) hn
            omega
        · cases hn : textAt s i with
          | none => rw [hn] at h; simp at h
          | some p =>
            rw [hn] at h; simp at h
            have := textAt_len (t := p.1) (e := p.2) hn
            omega
theorem weightAt_len {s : Bs} {i : Nat} {n : Int} {e : Nat} (h : weightAt s i = some (n, e)) (hi : i ≤ s.length) : i ≤ e ∧ e ≤ s.length := by
  have hb := blanks_ge s i
  unfold weightAt at h
  split at h
  · split at h
    · cases h
    · next m e1 hn =>
      have h1 := numAt_len hn
      cases hm : mark s e1 [58] with
      | none => rw [hm] at h; simp at h
      | some e2 =>
        rw [hm] at h; simp at h
        have h2 := mark_ge hm
        have h3 := mark_le hm h1.2
        omega
  · simp at h; omega
theorem boundsAt_len {s : Bs} {f i : Nat} {k : List E → T} {x : T} {e : Nat} (h : boundsAt s f i k = some (some (x, e))) (hi : i ≤ s.length) : i < e ∧ e ≤ s.length := by
  obtain ⟨a, ha, h⟩ := orFail_ok h
  obtain ⟨x1, b, hb, h⟩ := ER.on_ok h
  obtain ⟨c, hc, h⟩ := orFail_ok h
  obtain ⟨x2, d, hd, h⟩ := ER.on_ok h
  obtain ⟨e2, he, h⟩ := orFail_ok h
  have h1 := mark_ge ha
  have h1' := mark_le ha hi
  have h2 := prefixE_len hb h1'
  have h3 := mark_ge hc
  have h3' := mark_le hc h2.2
  have h4 := prefixE_len hd h3'
  have h5 := mark_ge he
  have h5' := mark_le he h4.2
  simp at h; omega
theorem boundsAt_ends (s : Bs) (f i : Nat) (k : List E → T) (hi : i ≤ s.length) (hf : 16 * (s.length + 1) + 8 ≤ f) : boundsAt s f i k ≠ none := by
  refine orFail_ne fun a ha => ?_
  have h1' := mark_le ha hi
  refine ER.on_ne (prefixE_ends s f a h1' hf) fun x b hb => ?_
  have h2 := prefixE_len hb h1'
  refine orFail_ne fun c hc => ?_
  have h3' := mark_le hc h2.2
  refine ER.on_ne (prefixE_ends s f c h3' hf) fun y d hd => ?_
  exact orFail_ne fun e he => by simp

theorem parseT_len (s : Bs) : ∀ (f : Nat) (g : TG) (x : T) (e : Nat), parseT s f g = some (some (x, e)) → g.pos ≤ s.length → g.pos < e ∧ e ≤ s.length := by
  intro f
  induction f with
  | zero => intro g x e h; simp [parseT] at h
  | succ f ih =>
    intro g x e h hi
    have IT : ∀ {i : Nat} {x : T} {e : Nat}, parseT s f (.term i) = some (some (x, e)) → i ≤ s.length → i < e ∧ e ≤ s.length := fun h hi => ih _ _ _ h hi
    cases g with
    | term i =>
      simp only [TG.pos] at hi ⊢
      simp only [parseT] at h
      split at h
      · next e1 hm =>
        have h1 := mark_ge hm
        have h1' := mark_le hm hi
        split at h
        · next e2 hm2 =>
          have h2 := mark_ge hm2
          have h2' := mark_le hm2 h1'
          simp at h h1; omega
        · have := ih _ _ _ h h1'
          simp only [TG.pos] at this; omega
      · split at h
        · next e1 hm =>
          have h1 := mark_ge hm
          have h1' := mark_le hm hi
          split at h
          · next e2 hm2 =>
            have h2 := mark_ge hm2
            have h2' := mark_le hm2 h1'
            simp at h h1; omega
          · have := ih _ _ _ h h1'
            simp only [TG.pos] at this; omega
        · split at h
          · simp at h
          · next hw =>
            have hw1 : (word s i).1 ≠ [] := fun x => hw (.inl x)
            have w1 := word_gt hw1
            have w2 := word_le s i hi
            generalize (word s i).2 = j at h w1 w2
            suffices j ≤ e ∧ e ≤ s.length by omega
            split at h
            · have := justAt_len (s := s) (i := j) (x := x) (e := e) (by simpa using h) w2
              omega
            · split at h
              · split at h
                · simp at h
                · obtain ⟨a, ha, h⟩ := orFail_ok h
                  obtain ⟨y, b, hb, h⟩ := ER.on_ok h
                  split at h
                  · simp at h
                  · obtain ⟨z, c, hc, h⟩ := ER.on_ok h
                    split at h
                    · simp at h
                    · obtain ⟨u, d, hd, h⟩ := ER.on_ok h
                      have g1 := word_ge s j
                      have g1' := word_le s j w2
                      have g2 := mark_ge ha
                      have g2' := mark_le ha g1'
                      have g3 := IT hb g2'
                      have g4 := word_ge s b
                      have g4' := word_le s b g3.2
                      have g5 := prefixE_len hc g4'
                      have g6 := word_ge s c
                      have g6' := word_le s c g5.2
                      have g7 := IT hd g6'
                      simp at h; omega
              · split at h
                · obtain ⟨a, ha, h⟩ := orFail_ok h
                  obtain ⟨y, b, hb, h⟩ := ER.on_ok h
                  obtain ⟨c, hc, h⟩ := orFail_ok h
                  obtain ⟨z, d, hd, h⟩ := ER.on_ok h
                  obtain ⟨e2, he, h⟩ := orFail_ok h
                  have g1 := mark_ge ha
                  have g1' := mark_le ha w2
                  have g2 := prefixE_len hb g1'
                  have g3 := mark_ge hc
                  have g3' := mark_le hc g2.2
                  have g4 := prefixE_len hd g3'
                  have g5 := mark_ge he
                  have g5' := mark_le he g4.2
                  simp at h; omega
                · split at h
                  · obtain ⟨a, ha, h⟩ := orFail_ok h
                    have g1 := mark_ge ha
                    have g1' := mark_le ha w2
                    have g2 := ih _ _ _ h g1'
                    simp only [TG.pos] at g2; omega
                  · split at h
                    · obtain ⟨a, ha, h⟩ := orFail_ok h
                      obtain ⟨y, b, hb, h⟩ := ER.on_ok h
                      have g1 := mark_ge ha
                      have g1' := mark_le ha w2
                      have g2 := IT hb g1'
                      have g3 := boundsAt_len h g2.2
                      omega
                    · split at h
                      · obtain ⟨a, ha, h⟩ := orFail_ok h
                        obtain ⟨p, hp, h⟩ := orFail_ok h
                        have g1 := mark_ge ha
                        have g1' := mark_le ha w2
                        have g2 := textAt_len (t := p.1) (e := p.2) hp
                        have g3 := boundsAt_len h g2.2
                        omega
                      · split at h
                        · obtain ⟨a, ha, h⟩ := orFail_ok h
                          obtain ⟨y, b, hb, h⟩ := ER.on_ok h
                          obtain ⟨c, hc, h⟩ := orFail_ok h
                          obtain ⟨z, d, hd, h⟩ := ER.on_ok h
                          obtain ⟨e2, he, h⟩ := orFail_ok h
                          have g1 := mark_ge ha
                          have g1' := mark_le ha w2
                          have g2 := IT hb g1'
                          have g3 := mark_ge hc
                          have g3' := mark_le hc g2.2
                          have g4 := prefixE_len hd g3'
                          have g5 := mark_ge he
                          have g5' := mark_le he g4.2
                          simp at h; omega
                        · split at h
                          · obtain ⟨a, ha, h⟩ := orFail_ok h
                            obtain ⟨l, b, hb, h⟩ := ER.on_ok h
                            obtain ⟨c, hc, h⟩ := orFail_ok h
                            obtain ⟨z, d, hd, h⟩ := ER.on_ok h
                            obtain ⟨e2, he, h⟩ := orFail_ok h
                            have g1 := mark_ge ha
                            have g1' := mark_le ha w2
                            have g2 := isosAt_len hb g1'
                            have g3 := mark_ge hc
                            have g3' := mark_le hc g2.2
                            have g4 := IT hd g3'
                            have g5 := mark_ge he
                            have g5' := mark_le he g4.2
                            simp at h; omega
                          · simp at h; omega
    | tuple parts i =>
      simp only [TG.pos] at hi ⊢
      simp only [parseT] at h
      obtain ⟨y, b, hb, h⟩ := ER.on_ok h
      have g1 := IT hb hi
      split at h
      · next e2 hm =>
        have g2 := mark_ge hm
        have g2' := mark_le hm g1.2
        simp at h; omega
      · obtain ⟨c, hc, h⟩ := orFail_ok h
        have g2 := mark_ge hc
        have g2' := mark_le hc g1.2
        have g3 := ih _ _ _ h g2'
        simp only [TG.pos] at g3; omega
    | record keys parts i =>
      simp only [TG.pos] at hi ⊢
      simp only [parseT] at h
      obtain ⟨p, hp, h⟩ := orFail_ok h
      obtain ⟨a, ha, h⟩ := orFail_ok h
      obtain ⟨y, b, hb, h⟩ := ER.on_ok h
      have g0 := textAt_len (t := p.1) (e := p.2) hp
      have g0' := mark_ge ha
      have g0'' := mark_le ha g0.2
      have g1 := IT hb g0''
      split at h
      · next e2 hm =>
        have g2 := mark_ge hm
        have g2' := mark_le hm g1.2
        simp at h; omega
      · obtain ⟨c, hc, h⟩ := orFail_ok h
        have g2 := mark_ge hc
        have g2' := mark_le hc g1.2
        have g3 := ih _ _ _ h g2'
        simp only [TG.pos] at g3; omega
    | pick weights parts i =>
      simp only [TG.pos] at hi ⊢
      simp only [parseT] at h
      obtain ⟨p, hp, h⟩ := orFail_ok h
      obtain ⟨y, b, hb, h⟩ := ER.on_ok h
      have g0 := weightAt_len (n := p.1) (e := p.2) hp hi
      have g1 := IT hb g0.2
      split at h
      · next e2 hm =>
        have g2 := mark_ge hm
        have g2' := mark_le hm g1.2
        simp at h; omega
      · obtain ⟨c, hc, h⟩ := orFail_ok h
        have g2 := mark_ge hc
        have g2' := mark_le hc g1.2
        have g3 := ih _ _ _ h g2'
        simp only [TG.pos] at g3; omega

def TG.need (L : Nat) : TG → Nat
  | .term i => 16 * (L + 1) + 8 + 2 * (L + 1 - i)
  | .tuple _ i => 16 * (L + 1) + 8 + 2 * (L + 1 - i) + 1
  | .record _ _ i => 16 * (L + 1) + 8 + 2 * (L + 1 - i) + 1
  | .pick _ _ i => 16 * (L + 1) + 8 + 2 * (L + 1 - i) + 1
theorem parseT_ends (s : Bs) : ∀ (f : Nat) (g : TG), g.pos ≤ s.length → g.need s.length ≤ f → parseT s f g ≠ none := by
  intro f
  induction f with
  | zero =>
    intro g hi hn
    cases g <;> simp only [TG.need, TG.pos] at hn hi <;> omega
  | succ f ih =>
    intro g hi hn
    have IT : ∀ {i : Nat}, i ≤ s.length → 16 * (s.length + 1) + 8 + 2 * (s.length + 1 - i) ≤ f → parseT s f (.term i) ≠ none := fun hi hf => ih _ hi hf
    have LT : ∀ {i : Nat} {x : T} {e : Nat}, parseT s f (.term i) = some (some (x, e)) → i ≤ s.length → i < e ∧ e ≤ s.length := fun h hi => parseT_len s _ _ _ _ h hi
    cases g with
    | term i =>
      simp only [TG.pos] at hi; simp only [TG.need] at hn
      simp only [parseT]
      split
      · next e1 hm =>
        have h1 := mark_ge hm
        have h1' := mark_le hm hi
        simp at h1
        split
        · simp
        · exact ih _ h1' (by simp only [TG.need]; omega)
      · split
        · next e1 hm =>
          have h1 := mark_ge hm
          have h1' := mark_le hm hi
          simp at h1
          split
          · simp
          · exact ih _ h1' (by simp only [TG.need]; omega)
        · split
          · simp
          · next hw =>
            have hw1 : (word s i).1 ≠ [] := fun x => hw (.inl x)
            have w1 := word_gt hw1
            have w2 := word_le s i hi
            generalize (word s i).2 = j at w1 w2 ⊢
            split
            · simp
            · split
              · split
                · simp
                · refine orFail_ne fun a ha => ?_
                  have g1 := word_ge s j
                  have g1' := word_le s j w2
                  have g2 := mark_ge ha
                  have g2' := mark_le ha g1'
                  refine ER.on_ne (IT g2' (by omega)) fun x b hb => ?_
                  have g3 := LT hb g2'
                  split
                  · simp
                  · have g4 := word_ge s b
                    have g4' := word_le s b g3.2
                    refine ER.on_ne (prefixE_ends s f _ g4' (by omega)) fun z c hc => ?_
                    have g5 := prefixE_len hc g4'
                    split
                    · simp
                    · have g6 := word_ge s c
                      have g6' := word_le s c g5.2
                      exact ER.on_ne (IT g6' (by omega)) fun u d hd => by simp
              · split
                · refine orFail_ne fun a ha => ?_
                  have g1 := mark_ge ha
                  have g1' := mark_le ha w2
                  refine ER.on_ne (prefixE_ends s f _ g1' (by omega)) fun z c hc => ?_
                  have g2 := prefixE_len hc g1'
                  refine orFail_ne fun d hd => ?_
                  have g3' := mark_le hd g2.2
                  refine ER.on_ne (prefixE_ends s f _ g3' (by omega)) fun z c hc => ?_
                  exact orFail_ne fun d hd => by simp
                · split
                  · refine orFail_ne fun a ha => ?_
                    have g1 := mark_ge ha
                    have g1' := mark_le ha w2
                    exact ih _ g1' (by simp only [TG.need]; omega)
                  · split
                    · refine orFail_ne fun a ha => ?_
                      have g1 := mark_ge ha
                      have g1' := mark_le ha w2
                      refine ER.on_ne (IT g1' (by omega)) fun x b hb => ?_
                      have g3 := LT hb g1'
                      exact boundsAt_ends s f _ _ g3.2 (by omega)
                    · split
                      · refine orFail_ne fun a ha => orFail_ne fun p hp => ?_
                        have g2 := textAt_len (t := p.1) (e := p.2) hp
                        exact boundsAt_ends s f _ _ g2.2 (by omega)
                      · split
                        · refine orFail_ne fun a ha => ?_
                          have g1 := mark_ge ha
                          have g1' := mark_le ha w2
                          refine ER.on_ne (IT g1' (by omega)) fun x b hb => ?_
                          have g3 := LT hb g1'
                          refine orFail_ne fun c hc => ?_
                          have g4 := mark_le hc g3.2
                          refine ER.on_ne (prefixE_ends s f _ g4 (by omega)) fun z c hc => ?_
                          exact orFail_ne fun d hd => by simp
                        · split
                          · refine orFail_ne fun a ha => ?_
                            have g1 := mark_ge ha
                            have g1' := mark_le ha w2
                            refine ER.on_ne (isosAt_ends s f _ _ g1' (by omega)) fun l b hb => ?_
                            have g2 := isosAt_len hb g1'
                            refine orFail_ne fun c hc => ?_
                            have g3 := mark_ge hc
                            have g3' := mark_le hc g2.2
                            refine ER.on_ne (IT g3' (by omega)) fun x b hb => ?_
                            exact orFail_ne fun d hd => by simp
                          · simp
    | tuple parts i =>
      simp only [TG.pos] at hi; simp only [TG.need] at hn
      simp only [parseT]
      refine ER.on_ne (IT hi (by omega)) fun x b hb => ?_
      have g1 := LT hb hi
      split
      · simp
      · refine orFail_ne fun c hc => ?_
        have g2 := mark_ge hc
        have g2' := mark_le hc g1.2
        exact ih _ g2' (by simp only [TG.need]; omega)
    | record keys parts i =>
      simp only [TG.pos] at hi; simp only [TG.need] at hn
      simp only [parseT]
      refine orFail_ne fun p hp => orFail_ne fun a ha => ?_
      have g0 := textAt_len (t := p.1) (e := p.2) hp
      have g0' := mark_ge ha
      have g0'' := mark_le ha g0.2
      refine ER.on_ne (IT g0'' (by omega)) fun x b hb => ?_
      have g1 := LT hb g0''
      split
      · simp
      · refine orFail_ne fun c hc => ?_
        have g2 := mark_ge hc
        have g2' := mark_le hc g1.2
        exact ih _ g2' (by simp only [TG.need]; omega)
    | pick weights parts i =>
      simp only [TG.pos] at hi; simp only [TG.need] at hn
      simp only [parseT]
      refine orFail_ne fun p hp => ?_
      have g0 := weightAt_len (n := p.1) (e := p.2) hp hi
      refine ER.on_ne (IT g0.2 (by omega)) fun x b hb => ?_
      have g1 := LT hb g0.2
      split
      · simp
      · refine orFail_ne fun c hc => ?_
        have g2 := mark_ge hc
        have g2' := mark_le hc g1.2
        exact ih _ g2' (by simp only [TG.need]; omega)
theorem defsAt_ends (s : Bs) (f : Nat) (acc : List D) (i : Nat) (hi : i ≤ s.length) (hf : 16 * (s.length + 1) + 8 + 3 * (s.length + 1 - i) ≤ f) : defsAt s f acc i ≠ none := by
  induction f generalizing acc i with
  | zero => omega
  | succ f ih =>
    simp only [defsAt]
    split
    · simp
    · split
      · simp
      · next hw =>
        have hw1 : (word s i).1 ≠ [] := fun x => hw (.inl x)
        have w1 := word_gt hw1
        have w2 := word_le s i hi
        refine orFail_ne fun a ha => ?_
        have g1 := mark_ge ha
        have g1' := mark_le ha w2
        refine ER.on_ne (parseT_ends s f _ (by simpa [TG.pos] using g1') (by simp only [TG.need]; omega)) fun x e hx => ?_
        have g2 := parseT_len s _ _ _ _ hx (by simpa [TG.pos] using g1')
        simp only [TG.pos] at g2
        refine orFail_ne fun c hc => ?_
        have g3 := mark_ge hc
        have g3' := mark_le hc g2.2
        exact ih _ _ g3' (by omega)
/-- Enough rounds for a text. -/
def fuelOf (s : Bs) : Nat := 19 * (s.length + 1) + 8
theorem parseD_ends (s : Bs) : parseD s (fuelOf s) ≠ none := by
  unfold parseD
  split
  · simp
  · have := defsAt_ends s (fuelOf s) [] 0 (Nat.zero_le _) (by unfold fuelOf; omega)
    split
    · contradiction
    · simp
    · simp
end Go.Proofs.YtnpaikdaogikcaaGreatDoor

/- How many nodes a tree has that was read: no more than the bytes it took. -/
namespace Go.Proofs.YtnpaikdaogikcaaGreatDoor
set_option maxRecDepth 100000
set_option linter.unusedVariables false
set_option linter.unusedSimpArgs false

mutual
def E.size : E → Nat
  | .mk _ _ _ args => E.sizes args + 1
def E.sizes : List E → Nat
  | [] => 0
  | x :: l => E.size x + E.sizes l
end
theorem E.size_pos (x : E) : 1 ≤ x.size := by cases x; simp [E.size]
theorem E.sizes_append (l m : List E) : E.sizes (l ++ m) = E.sizes l + E.sizes m := by
  induction l with
  | nil => simp [E.sizes]
  | cons x l ih => simp only [List.cons_append, E.sizes, ih]; omega
theorem E.sizes_len (l : List E) : l.length ≤ E.sizes l := by
  induction l with
  | nil => simp
  | cons x l ih => simp only [List.length_cons, E.sizes]; have := E.size_pos x; omega
theorem E.sizes_mem {l : List E} {x : E} (h : x ∈ l) : x.size ≤ E.sizes l := by
  induction l with
  | nil => simp at h
  | cons y l ih =>
    simp only [E.sizes]
    rcases List.mem_cons.1 h with e | e
    · subst e; omega
    · have := ih e; omega
mutual
theorem E.depth_size : ∀ x : E, E.depth x ≤ E.size x
  | .mk _ _ _ args => by have := E.depths_sizes args; simp only [E.depth, E.size]; omega
theorem E.depths_sizes : ∀ l : List E, E.depths l ≤ E.sizes l
  | [] => by simp [E.depths]
  | x :: l => by have := E.depth_size x; have := E.depths_sizes l; simp only [E.depths, E.sizes]; omega
end
theorem size_lit (v : V) : (lit v).size = 1 := by simp [lit, E.size, E.sizes]
theorem size_un (op : Bs) (x : E) : (un op x).size = x.size + 1 := by simp [un, E.size, E.sizes]
theorem size_bin (op : Bs) (x y : E) : (bin op x y).size = x.size + y.size + 1 := by simp [bin, E.size, E.sizes]
theorem size_leaf (op name : Bs) (v : V) : (E.mk op name v []).size = 1 := by simp [E.size, E.sizes]
def EG.have_ : EG → Nat
  | .level _ _ => 0
  | .chain x _ _ => x.size
  | .part x _ => x.size
  | .one _ => 0
  | .call _ args _ => E.sizes args + 1
theorem parseE_size (s : Bs) : ∀ (f : Nat) (g : EG) (x : E) (e : Nat), parseE s f g = some (some (x, e)) → g.pos ≤ s.length → x.size + g.pos ≤ g.have_ + e := by
  intro f
  induction f with
  | zero => intro g x e h; simp [parseE] at h
  | succ f ih =>
    intro g x e h hi
    have hL := parseE_len s _ _ _ _ h hi
    cases g with
    | level i n =>
      simp only [EG.pos] at hi
      simp only [parseE] at h
      simp only [EG.pos, EG.have_, Nat.zero_add]
      split at h
      · split at h
        · next hw =>
          obtain ⟨y, a, hy, hk⟩ := ER.on_ok h
          have h1 := word_gt (s := s) (i := i) (by rw [hw]; simp)
          have h2 := ih _ _ _ hy (word_le s i hi)
          simp at hk
          obtain ⟨rfl, rfl⟩ := hk
          rw [size_un]
          simp only [EG.pos, EG.have_] at h2
          omega
        · have := ih _ _ _ h hi
          simpa only [EG.pos, EG.have_, Nat.zero_add] using this
      · split at h
        · split at h
          · next e1 hm =>
            obtain ⟨y, a, hy, hk⟩ := ER.on_ok h
            have h1 := mark_ge hm
            have h2 := ih _ _ _ hy (mark_le hm hi)
            simp at hk
            obtain ⟨rfl, rfl⟩ := hk
            rw [size_un]
            simp only [EG.pos, EG.have_, List.length_singleton] at h1 h2
            omega
          · obtain ⟨y, a, hy, hk⟩ := ER.on_ok h
            have h2 := ih _ _ _ hy hi
            have h4 := parseE_len s _ _ _ _ hy hi
            have h3 := ih _ _ _ hk h4.2
            simp only [EG.pos, EG.have_] at h2 h3; omega
        · obtain ⟨y, a, hy, hk⟩ := ER.on_ok h
          have h2 := ih _ _ _ hy hi
          have h4 := parseE_len s _ _ _ _ hy hi
          have h3 := ih _ _ _ hk h4.2
          simp only [EG.pos, EG.have_] at h2 h3; omega
    | chain y i n =>
      simp only [EG.pos] at hi
      simp only [parseE] at h
      simp only [EG.pos, EG.have_]
      split at h
      · simp at h; obtain ⟨rfl, rfl⟩ := h; omega
      · next op e1 hb =>
        obtain ⟨z, a, hz, hk⟩ := ER.on_ok h
        have h1 := between_len hb hi
        have h2 := ih _ _ _ hz h1.2
        have h4 := parseE_len s _ _ _ _ hz h1.2
        simp only [EG.pos, EG.have_] at h2
        split at hk
        · simp at hk; obtain ⟨rfl, rfl⟩ := hk; rw [size_bin]; omega
        · have h3 := ih _ _ _ hk h4.2
          simp only [EG.pos, EG.have_, size_bin] at h3; omega
    | part y i =>
      simp only [EG.pos] at hi
      simp only [parseE] at h
      simp only [EG.pos, EG.have_]
      split at h
      · next e1 hm =>
        have h1 := mark_ge hm
        have h1' := mark_le hm hi
        split at h
        · simp at h
        · next k e2 hk =>
          have h2 := keyAt_len hk h1'
          have h3 := ih _ _ _ h h2.2
          simp only [EG.pos, EG.have_, E.size, E.sizes] at h3; omega
      · split at h
        · simp at h; obtain ⟨rfl, rfl⟩ := h; omega
        · next e1 hm =>
          have h1 := mark_ge hm
          have h1' := mark_le hm hi
          obtain ⟨z, a, hz, hk⟩ := ER.on_ok h
          have h2 := ih _ _ _ hz h1'
          have h5 := parseE_len s _ _ _ _ hz h1'
          simp only [EG.pos, EG.have_, List.length_singleton] at h1 h2
          split at hk
          · simp at hk
          · next e3 hm3 =>
            have h4 := mark_ge hm3
            have h4' := mark_le hm3 h5.2
            have h3 := ih _ _ _ hk h4'
            simp only [EG.pos, EG.have_, size_bin] at h3; omega
    | one i =>
      simp only [EG.pos] at hi
      simp only [EG.pos, EG.strict] at hL
      have hlt : i < e := hL.1.2 trivial
      simp only [parseE] at h
      simp only [EG.pos, EG.have_, Nat.zero_add]
      have leaf : x.size = 1 → x.size + i ≤ e := fun h => by omega
      split at h
      · apply leaf
        unfold numLit at h
        split at h
        · simp at h
        · split at h
          · simp at h
          · simp at h; obtain ⟨rfl, _⟩ := h; exact size_lit _
      · split at h
        · apply leaf
          cases hs : strAt s (blanks s i) with
          | none => rw [hs] at h; simp at h
          | some p => rw [hs] at h; simp at h; obtain ⟨rfl, _⟩ := h; exact size_lit _
        · split at h
          · next e1 hm =>
            have h1 := mark_ge hm
            have h1' := mark_le hm hi
            obtain ⟨z, a, hz, hk⟩ := ER.on_ok h
            have h2 := ih _ _ _ hz h1'
            cases hm2 : mark s a [41] with
            | none => rw [hm2] at hk; simp at hk
            | some e3 =>
              rw [hm2] at hk; simp at hk
              obtain ⟨rfl, rfl⟩ := hk
              have h4 := mark_ge hm2
              simp only [EG.pos, EG.have_] at h2; omega
          · split at h
            · simp at h
            · next hw =>
              have hw1 : (word s i).1 ≠ [] := fun x => hw (.inl x)
              have h1 := word_gt hw1
              have h1' := word_le s i hi
              split at h
              · simp at h; exact leaf (h.1 ▸ size_lit _)
              · split at h
                · simp at h; exact leaf (h.1 ▸ size_lit _)
                · split at h
                  · simp at h; exact leaf (h.1 ▸ size_lit _)
                  · split at h
                    · simp at h; exact leaf (h.1 ▸ size_leaf _ _ _)
                    · split at h
                      · split at h
                        · simp at h
                        · next e1 hm =>
                          have h2 := mark_ge hm
                          have h2' := mark_le hm h1'
                          have h3 := ih _ _ _ h h2'
                          simp only [EG.pos, EG.have_, E.sizes] at h3; omega
                      · simp at h; exact leaf (h.1 ▸ size_leaf _ _ _)
    | call name args i =>
      simp only [EG.pos] at hi
      simp only [parseE] at h
      simp only [EG.pos, EG.have_]
      obtain ⟨z, a, hz, hk⟩ := ER.on_ok h
      have h2 := ih _ _ _ hz hi
      have h5 := parseE_len s _ _ _ _ hz hi
      simp only [EG.pos, EG.have_] at h2
      split at hk
      · next e1 hm =>
        have h1 := mark_ge hm
        split at hk <;> simp at hk
        obtain ⟨rfl, rfl⟩ := hk
        simp only [E.size, E.sizes_append, E.sizes]; omega
      · split at hk
        · simp at hk
        · next e1 hm =>
          have h1 := mark_ge hm
          have h1' := mark_le hm h5.2
          split at hk
          · simp at hk
          · have h3 := ih _ _ _ hk h1'
            simp only [EG.pos, EG.have_, E.sizes_append, E.sizes] at h3; omega
theorem prefixE_size {s : Bs} {f i : Nat} {x : E} {e : Nat} (h : prefixE s f i = some (some (x, e))) (hi : i ≤ s.length) : x.size + i ≤ e := by
  obtain ⟨y, a, hy, hk⟩ := ER.on_ok h
  have := parseE_size s _ _ _ _ hy hi
  simp only [EG.pos, EG.have_] at this
  split at hk <;> simp at hk
  obtain ⟨rfl, rfl⟩ := hk
  omega
end Go.Proofs.YtnpaikdaogikcaaGreatDoor
