/- The document's readings end, and read on. -/
import Derived.Test.YtmhdcnaibleihaaGreatDoorG03
import Derived.Test.YtmhdcnaibleihaaGreatDoorG13

namespace Go.Proofs.YtmhdcnaibleihaaGreatDoor
set_option maxRecDepth 100000
set_option linter.unusedVariables false
set_option linter.unusedSimpArgs false

theorem ER.on_ok {α β : Type} {r : Option (Option (α × Nat))} {k : α → Nat → Option (Option (β × Nat))} {y : β} {e : Nat} (h : ER.on r k = some (some (y, e))) : ∃ x a, r = some (some (x, a)) ∧ k x a = some (some (y, e)) := by
  unfold ER.on at h
  split at h
  · cases h
  · cases h
  · exact ⟨_, _, rfl, h⟩
theorem ER.on_ne {α β : Type} {r : Option (Option (α × Nat))} {k : α → Nat → Option (Option (β × Nat))} (hr : r ≠ none) (hk : ∀ x a, r = some (some (x, a)) → k x a ≠ none) : ER.on r k ≠ none := by
  unfold ER.on
  split
  · exact fun _ => hr rfl
  · simp
  · exact hk _ _ rfl
theorem orFail_ok {α β : Type} {o : Option α} {k : α → Option (Option (β × Nat))} {y : β} {e : Nat} (h : orFail o k = some (some (y, e))) : ∃ a, o = some a ∧ k a = some (some (y, e)) := by
  unfold orFail at h
  split at h
  · cases h
  · exact ⟨_, rfl, h⟩
theorem orFail_ne {α β : Type} {o : Option α} {k : α → Option (Option (β × Nat))} (hk : ∀ a, o = some a → k a ≠ none) : orFail o k ≠ none := by
  unfold orFail
  split
  · simp
  · exact hk _ rfl

def EG.pos : EG → Nat
  | .level i _ => i
  | .chain _ i _ => i
  | .part _ i => i
  | .one i => i
  | .call _ _ i => i
def EG.strict : EG → Bool
  | .chain .. => false
  | .part .. => false
  | _ => true
theorem numLit_len {s : Bs} {i : Nat} {x : E} {e : Nat} (h : numLit s i = some (some (x, e))) : i < e ∧ e ≤ s.length := by
  unfold numLit at h
  split at h
  · simp at h
  · next hn =>
    split at h
    · simp at h
    · simp at h; exact h.2 ▸ numAt_len hn
theorem parseE_len (s : Bs) : ∀ (f : Nat) (g : EG) (x : E) (e : Nat), parseE s f g = some (some (x, e)) → g.pos ≤ s.length → (g.pos ≤ e ∧ (g.strict = true → g.pos < e)) ∧ e ≤ s.length := by
  intro f
  induction f with
  | zero => intro g x e h; simp [parseE] at h
  | succ f ih =>
    intro g x e h hi
    cases g with
    | level i n =>
      simp only [EG.pos] at hi
      suffices i < e ∧ e ≤ s.length from ⟨⟨Nat.le_of_lt this.1, fun _ => this.1⟩, this.2⟩
      simp only [parseE] at h
      split at h
      · split at h
        · next hw =>
          obtain ⟨y, a, hy, hk⟩ := ER.on_ok h
          have h1 := word_gt (s := s) (i := i) (by rw [hw]; simp)
          have h2 := ih _ _ _ hy (word_le s i hi)
          simp [EG.pos, EG.strict] at h2 hk
          omega
        · have := ih _ _ _ h hi
          simp [EG.pos, EG.strict] at this; omega
      · split at h
        · split at h
          · next e1 hm =>
            obtain ⟨y, a, hy, hk⟩ := ER.on_ok h
            have h1 := mark_ge hm
            have h2 := ih _ _ _ hy (mark_le hm hi)
            simp [EG.pos, EG.strict] at h1 h2 hk
            omega
          · obtain ⟨y, a, hy, hk⟩ := ER.on_ok h
            have h2 := ih _ _ _ hy hi
            have h3 := ih _ _ _ hk h2.2
            simp [EG.pos, EG.strict] at h2 h3; omega
        · obtain ⟨y, a, hy, hk⟩ := ER.on_ok h
          have h2 := ih _ _ _ hy hi
          have h3 := ih _ _ _ hk h2.2
          simp [EG.pos, EG.strict] at h2 h3; omega
    | chain y i n =>
      simp only [EG.pos] at hi
      suffices i ≤ e ∧ e ≤ s.length from ⟨⟨this.1, fun h => by simp [EG.strict] at h⟩, this.2⟩
      simp only [parseE] at h
      split at h
      · simp at h; omega
      · next op e1 hb =>
        obtain ⟨z, a, hz, hk⟩ := ER.on_ok h
        have h1 := between_len hb hi
        have h2 := ih _ _ _ hz h1.2
        simp [EG.pos, EG.strict] at h2
        split at hk
        · simp at hk; omega
        · have h3 := ih _ _ _ hk h2.2
          simp [EG.pos, EG.strict] at h3; omega
    | part y i =>
      simp only [EG.pos] at hi
      suffices i ≤ e ∧ e ≤ s.length from ⟨⟨this.1, fun h => by simp [EG.strict] at h⟩, this.2⟩
      simp only [parseE] at h
      split at h
      · next e1 hm =>
        have h1 := mark_ge hm
        have h1' := mark_le hm hi
        split at h
        · simp at h
        · next k e2 hk =>
          have h2 := keyAt_len hk h1'
          have h3 := ih _ _ _ h h2.2
          simp [EG.pos, EG.strict] at h3; omega
      · split at h
        · simp at h; omega
        · next e1 hm =>
          have h1 := mark_ge hm
          have h1' := mark_le hm hi
          obtain ⟨z, a, hz, hk⟩ := ER.on_ok h
          have h2 := ih _ _ _ hz h1'
          simp [EG.pos, EG.strict] at h2
          split at hk
          · simp at hk
          · next e3 hm3 =>
            have h4 := mark_ge hm3
            have h4' := mark_le hm3 h2.2
            have h3 := ih _ _ _ hk h4'
            simp [EG.pos, EG.strict] at h3; omega
    | one i =>
      simp only [EG.pos] at hi
      suffices i < e ∧ e ≤ s.length from ⟨⟨Nat.le_of_lt this.1, fun _ => this.1⟩, this.2⟩
      have hb := blanks_ge s i
      simp only [parseE] at h
      split at h
      · have := numLit_len h; omega
      · split at h
        · next hq =>
          have hl := (List.getElem?_eq_some_iff.1 hq).1
          cases hs : strAt s (blanks s i) with
          | none => rw [hs] at h; simp at h
          | some p =>
            rw [hs] at h; simp at h
            have := strAt_len (t := p.1) (e := p.2) hs
            omega
        · split at h
          · next e1 hm =>
            have h1 := mark_ge hm
            have h1' := mark_le hm hi
            obtain ⟨z, a, hz, hk⟩ := ER.on_ok h
            have h2 := ih _ _ _ hz h1'
            cases hm2 : mark s a [41] with
            | none => rw [hm2] at hk; simp at hk
            | some e3 =>
              rw [hm2] at hk; simp at hk
              have h4 := mark_ge hm2
              have h4' := mark_le hm2 h2.2
              simp [EG.pos, EG.strict] at h2; omega
          · split at h
            · simp at h
            · next hw =>
              have hw1 : (word s i).1 ≠ [] := fun x => hw (.inl x)
              have h1 := word_gt hw1
              have h1' := word_le s i hi
              have fin : ∀ {y : E}, (some (some (y, (word s i).2)) : ER) = some (some (x, e)) → i < e ∧ e ≤ s.length := by
                intro y hy; simp at hy; omega
              split at h
              · exact fin h
              · split at h
                · exact fin h
                · split at h
                  · exact fin h
                  · split at h
                    · exact fin h
                    · split at h
                      · split at h
                        · simp at h
                        · next e1 hm =>
                          have h2 := mark_ge hm
                          have h2' := mark_le hm h1'
                          have h3 := ih _ _ _ h h2'
                          simp [EG.pos, EG.strict] at h3; omega
                      · exact fin h
    | call name args i =>
      simp only [EG.pos] at hi
      suffices i < e ∧ e ≤ s.length from ⟨⟨Nat.le_of_lt this.1, fun _ => this.1⟩, this.2⟩
      simp only [parseE] at h
      obtain ⟨z, a, hz, hk⟩ := ER.on_ok h
      have h2 := ih _ _ _ hz hi
      simp [EG.pos, EG.strict] at h2
      split at hk
      · next e1 hm =>
        have h1 := mark_ge hm
        have h1' := mark_le hm h2.2
        split at hk <;> simp at hk
        omega
      · split at hk
        · simp at hk
        · next e1 hm =>
          have h1 := mark_ge hm
          have h1' := mark_le hm h2.2
          split at hk
          · simp at hk
          · have h3 := ih _ _ _ hk h1'
            simp [EG.pos, EG.strict] at h3; omega

def EG.need (L : Nat) : EG → Nat
  | .level i n => 16 * (L + 1 - i) + (8 - n)
  | .chain _ i _ => 16 * (L + 1 - i) + 1
  | .part _ i => 16 * (L + 1 - i) + 1
  | .one i => 16 * (L + 1 - i) + 1
  | .call _ _ i => 16 * (L + 1 - i) + 9
def EG.ok : EG → Prop
  | .level _ n => n ≤ 6
  | .chain _ _ n => n < 6
  | _ => True
theorem parseE_ends (s : Bs) : ∀ (f : Nat) (g : EG), g.pos ≤ s.length → g.ok → g.need s.length ≤ f → parseE s f g ≠ none := by
  intro f
  induction f with
  | zero =>
    intro g hi ho hn
    cases g <;> simp only [EG.need, EG.pos] at hn hi <;> omega
  | succ f ih =>
    intro g hi ho hn
    cases g with
    | level i n =>
      simp only [EG.pos] at hi; simp only [EG.need] at hn; simp only [EG.ok] at ho
      simp only [parseE]
      split
      · split
        · next hw =>
          have h1 := word_gt (s := s) (i := i) (by rw [hw]; simp)
          have h2 := word_le s i hi
          exact ER.on_ne (ih _ h2 (by simp [EG.ok]) (by simp only [EG.need]; omega)) fun x a _ => by simp
        · exact ih _ hi (by simp [EG.ok]) (by simp only [EG.need]; omega)
      · split
        · split
          · next e1 hm =>
            have h1 := mark_ge hm
            have h2 := mark_le hm hi
            simp at h1
            exact ER.on_ne (ih _ h2 (by simp [EG.ok]) (by simp only [EG.need]; omega)) fun x a _ => by simp
          · refine ER.on_ne (ih _ hi (by simp [EG.ok]) (by simp only [EG.need]; omega)) fun x a hx => ?_
            have := parseE_len s _ _ _ _ hx hi
            simp [EG.pos, EG.strict] at this
            exact ih _ this.2 (by simp [EG.ok]) (by simp only [EG.need]; omega)
        · refine ER.on_ne (ih _ hi (by simp only [EG.ok]; omega) (by simp only [EG.need]; omega)) fun x a hx => ?_
          have := parseE_len s _ _ _ _ hx hi
          simp [EG.pos, EG.strict] at this
          exact ih _ this.2 (by simp only [EG.ok]; omega) (by simp only [EG.need]; omega)
    | chain y i n =>
      simp only [EG.pos] at hi; simp only [EG.need] at hn; simp only [EG.ok] at ho
      simp only [parseE]
      split
      · simp
      · next op e1 hb =>
        have h1 := between_len hb hi
        refine ER.on_ne (ih _ h1.2 (by simp only [EG.ok]; omega) (by simp only [EG.need]; omega)) fun x a hx => ?_
        have := parseE_len s _ _ _ _ hx h1.2
        simp [EG.pos, EG.strict] at this
        split
        · simp
        · exact ih _ this.2 (by simp only [EG.ok]; omega) (by simp only [EG.need]; omega)
    | part y i =>
      simp only [EG.pos] at hi; simp only [EG.need] at hn
      simp only [parseE]
      split
      · next e1 hm =>
        have h1 := mark_ge hm
        have h1' := mark_le hm hi
        split
        · simp
        · next k e2 hk =>
          have h2 := keyAt_len hk h1'
          exact ih _ h2.2 (by simp [EG.ok]) (by simp only [EG.need]; omega)
      · split
        · simp
        · next e1 hm =>
          have h1 := mark_ge hm
          have h1' := mark_le hm hi
          simp at h1
          refine ER.on_ne (ih _ h1' (by simp [EG.ok]) (by simp only [EG.need]; omega)) fun x a hx => ?_
          have := parseE_len s _ _ _ _ hx h1'
          simp [EG.pos, EG.strict] at this
          split
          · simp
          · next e3 hm3 =>
            have h4 := mark_ge hm3
            have h4' := mark_le hm3 this.2
            exact ih _ h4' (by simp [EG.ok]) (by simp only [EG.need]; omega)
    | one i =>
      simp only [EG.pos] at hi; simp only [EG.need] at hn
      simp only [parseE]
      split
      · simp [numLit]
      · split
        · simp
        · split
          · next e1 hm =>
            have h1 := mark_ge hm
            have h1' := mark_le hm hi
            simp at h1
            exact ER.on_ne (ih _ h1' (by simp [EG.ok]) (by simp only [EG.need]; omega)) fun x a hx => by simp
          · split
            · simp
            · next hw =>
              have hw1 : (word s i).1 ≠ [] := fun x => hw (.inl x)
              have h1 := word_gt hw1
              have h1' := word_le s i hi
              repeat' split
              all_goals first
                | (simp; done)
                | (next e1 hm =>
                    have h2 := mark_ge hm
                    have h2' := mark_le hm h1'
                    exact ih _ h2' (by simp [EG.ok]) (by simp only [EG.need]; omega))
    | call name args i =>
      simp only [EG.pos] at hi; simp only [EG.need] at hn
      simp only [parseE]
      refine ER.on_ne (ih _ hi (by simp [EG.ok]) (by simp only [EG.need]; omega)) fun x a hx => ?_
      have := parseE_len s _ _ _ _ hx hi
      simp [EG.pos, EG.strict] at this
      split
      · simp
      · split
        · simp
        · next e1 hm =>
          have h1 := mark_ge hm
          have h1' := mark_le hm this.2
          split
          · simp
          · exact ih _ h1' (by simp [EG.ok]) (by simp only [EG.need]; omega)
theorem prefixE_len {s : Bs} {f i : Nat} {x : E} {e : Nat} (h : prefixE s f i = some (some (x, e))) (hi : i ≤ s.length) : i < e ∧ e ≤ s.length := by
  obtain ⟨y, a, hy, hk⟩ := ER.on_ok h
  have := parseE_len s _ _ _ _ hy hi
  simp [EG.pos, EG.strict] at this
  split at hk <;> simp at hk
  omega
theorem prefixE_ends (s : Bs) (f i : Nat) (hi : i ≤ s.length) (hf : 16 * (s.length + 1) + 8 ≤ f) : prefixE s f i ≠ none :=
  ER.on_ne (parseE_ends s f _ hi (by simp [EG.ok]) (by simp only [EG.need]; omega)) fun x a _ => by simp
theorem isoOne_len {s : Bs} {i : Nat} {x : I} {e : Nat} (h : isoOne s i = some (x, e)) (hi : i ≤ s.length) : i < e ∧ e ≤ s.length := by
  have hw : (word s i).1 ≠ [] := by
    intro hw; unfold isoOne at h; rw [hw] at h; simp [isoUses, among] at h
  have h1 := word_gt hw
  have h1' := word_le s i hi
  have h2 := blanks_ge s (word s i).2
  unfold isoOne at h
  split at h
  · cases h
  · simp at h; omega
  · split at h
    · cases h
    · next n e1 hn =>
      have := numAt_len hn
      split at h
      · cases h
      · simp at h; omega
  · split at h
    · next hq =>
      have hl := (List.getElem?_eq_some_iff.1 hq).1
      cases hs : strAt s (blanks s (word s i).2) with
      | none => rw [hs] at h; simp at h
      | some p =>
        rw [hs] at h; simp at h
        have := strAt_len (t := p.1) (e := p.2) hs
        omega
    · cases h
theorem isosAt_len {s : Bs} {f : Nat} {acc l : List I} {i e : Nat} (h : isosAt s f acc i = some (some (l, e))) (hi : i ≤ s.length) : i < e ∧ e ≤ s.length := by
  induction f generalizing acc i with
  | zero => simp [isosAt] at h
  | succ f ih =>
    simp only [isosAt] at h
    split at h
    · simp at h
    · next x e1 ho =>
      have h1 := isoOne_len ho hi
      split at h
      · simp at h; omega
      · next e2 hm =>
        have h2 := mark_ge hm
        have := ih h (mark_le hm h1.2)
        omega
theorem isosAt_ends (s : Bs) (f : Nat) (acc : List I) (i : Nat) (hi : i ≤ s.length) (hf : s.length + 1 - i ≤ f) : isosAt s f acc i ≠ none := by
  induction f generalizing acc i with
  | zero => omega
  | succ f ih =>
    simp only [isosAt]
    split
    · simp
    · next x e1 ho =>
      have h1 := isoOne_len ho hi
      split
      · simp
      · next e2 hm =>
        have h2 := mark_ge hm
        have h3 := mark_le hm h1.2
        exact ih _ _ h3 (by omega)
end Go.Proofs.YtmhdcnaibleihaaGreatDoor

/- The document's readings of terms, and of definitions, end, and read on. -/
namespace Go.Proofs.YtmhdcnaibleihaaGreatDoor
set_option maxRecDepth 100000
set_option linter.unusedVariables false
set_option linter.unusedSimpArgs false

def TG.pos : TG → Nat
  | .term i => i
  | .tuple _ i => i
  | .record _ _ i => i
  | .pick _ _ i => i
theorem textAt_len {s : Bs} {i : Nat} {t : Bs} {e : Nat} (h : textAt s i = some (t, e)) : i < e ∧ e ≤ s.length := by
  unfold textAt at h
  split at h
  · next hq =>
    have hl : blanks s i < s.length := (List.getElem?_eq_some_iff.1 hq).1
    have := strAt_len h
    have := blanks_ge s i
    omega
  · cases h
theorem justAt_len {s : Bs} {i : Nat} {x : T} {e : Nat} (h : justAt s i = some (x, e)) (hi : i ≤ s.length) : i < e ∧ e ≤ s.length := by
  have hb := blanks_ge s i
  unfold justAt at h
  have fin : ∀ {y : T} {k : Bs}, (word s i).1 = k → k ≠ [] → some (y, (word s i).2) = some (x, e) → i < e ∧ e ≤ s.length := by
    intro y k hk hn hy
    have h1 := word_gt (s := s) (i := i) (by rw [hk]; exact hn)
    have h1' := word_le s i hi
    simp at hy; omega
  split at h
  · next hw => exact fin hw (by simp) h
  · split at h
    · next hw => exact fin hw (by simp) h
    · split at h
      · next hw => exact fin hw (by simp) h
      · split at h
        · cases hn : numAt s (blanks s i) true with
          | none => rw [hn] at h; simp at h
          | some p =>
            rw [hn] at h; simp at h
            have := numAt_len (n := p.1) (e := p.2) hn
            omega
        · cases hn : textAt s i with
          | none => rw [hn] at h; simp at h
          | some p =>
            rw [hn] at h; simp at h
            have := textAt_len (t := p.1) (e := p.2) hn
            omega
theorem weightAt_len {s : Bs} {i : Nat} {n : Int} {e : Nat} (h : weightAt s i = some (n, e)) (hi : i ≤ s.length) : i ≤ e ∧ e ≤ s.length := by
  have hb := blanks_ge s i
  unfold weightAt at h
  split at h
  · split at h
    · cases h
    · next m e1 hn =>
      have h1 := numAt_len hn
      cases hm : mark s e1 [58] with
      | none => rw [hm] at h; simp at h
      | some e2 =>
        rw [hm] at h; simp at h
        have h2 := mark_ge hm
        have h3 := mark_le hm h1.2
        omega
  · simp at h; omega
theorem boundsAt_len {s : Bs} {f i : Nat} {k : List E → T} {x : T} {e : Nat} (h : boundsAt s f i k = some (some (x, e))) (hi : i ≤ s.length) : i < e ∧ e ≤ s.length := by
  obtain ⟨a, ha, h⟩ := orFail_ok h
  obtain ⟨x1, b, hb, h⟩ := ER.on_ok h
  obtain ⟨c, hc, h⟩ := orFail_ok h
  obtain ⟨x2, d, hd, h⟩ := ER.on_ok h
  obtain ⟨e2, he, h⟩ := orFail_ok h
  have h1 := mark_ge ha
  have h1' := mark_le ha hi
  have h2 := prefixE_len hb h1'
  have h3 := mark_ge hc
  have h3' := mark_le hc h2.2
  have h4 := prefixE_len hd h3'
  have h5 := mark_ge he
  have h5' := mark_le he h4.2
  simp at h; omega
theorem boundsAt_ends (s : Bs) (f i : Nat) (k : List E → T) (hi : i ≤ s.length) (hf : 16 * (s.length + 1) + 8 ≤ f) : boundsAt s f i k ≠ none := by
  refine orFail_ne fun a ha => ?_
  have h1' := mark_le ha hi
  refine ER.on_ne (prefixE_ends s f a h1' hf) fun x b hb => ?_
  have h2 := prefixE_len hb h1'
  refine orFail_ne fun c hc => ?_
  have h3' := mark_le hc h2.2
  refine ER.on_ne (prefixE_ends s f c h3' hf) fun y d hd => ?_
  exact orFail_ne fun e he => by simp

theorem parseT_len (s : Bs) : ∀ (f : Nat) (g : TG) (x : T) (e : Nat), parseT s f g = some (some (x, e)) → g.pos ≤ s.length → g.pos < e ∧ e ≤ s.length := by
  intro f
  induction f with
  | zero => intro g x e h; simp [parseT] at h
  | succ f ih =>
    intro g x e h hi
    have IT : ∀ {i : Nat} {x : T} {e : Nat}, parseT s f (.term i) = some (some (x, e)) → i ≤ s.length → i < e ∧ e ≤ s.length := fun h hi => ih _ _ _ h hi
    cases g with
    | term i =>
      simp only [TG.pos] at hi ⊢
      simp only [parseT] at h
      split at h
      · next e1 hm =>
        have h1 := mark_ge hm
        have h1' := mark_le hm hi
        split at h
        · next e2 hm2 =>
          have h2 := mark_ge hm2
          have h2' := mark_le hm2 h1'
          simp at h h1; omega
        · have := ih _ _ _ h h1'
          simp only [TG.pos] at this; omega
      · split at h
        · next e1 hm =>
          have h1 := mark_ge hm
          have h1' := mark_le hm hi
          split at h
          · next e2 hm2 =>
            have h2 := mark_ge hm2
            have h2' := mark_le hm2 h1'
            simp at h h1; omega
          · have := ih _ _ _ h h1'
            simp only [TG.pos] at this; omega
        · split at h
          · simp at h
          · next hw =>
            have hw1 : (word s i).1 ≠ [] := fun x => hw (.inl x)
            have w1 := word_gt hw1
            have w2 := word_le s i hi
            generalize (word s i).2 = j at h w1 w2
            suffices j ≤ e ∧ e ≤ s.length by omega
            split at h
            · have := justAt_len (s := s) (i := j) (x := x) (e := e) (by simpa using h) w2
              omega
            · split at h
              · split at h
                · simp at h
                · obtain ⟨a, ha, h⟩ := orFail_ok h
                  obtain ⟨y, b, hb, h⟩ := ER.on_ok h
                  split at h
                  · simp at h
                  · obtain ⟨z, c, hc, h⟩ := ER.on_ok h
                    split at h
                    · simp at h
                    · obtain ⟨u, d, hd, h⟩ := ER.on_ok h
                      have g1 := word_ge s j
                      have g1' := word_le s j w2
                      have g2 := mark_ge ha
                      have g2' := mark_le ha g1'
                      have g3 := IT hb g2'
                      have g4 := word_ge s b
                      have g4' := word_le s b g3.2
                      have g5 := prefixE_len hc g4'
                      have g6 := word_ge s c
                      have g6' := word_le s c g5.2
                      have g7 := IT hd g6'
                      simp at h; omega
              · split at h
                · obtain ⟨a, ha, h⟩ := orFail_ok h
                  obtain ⟨y, b, hb, h⟩ := ER.on_ok h
                  obtain ⟨c, hc, h⟩ := orFail_ok h
                  obtain ⟨z, d, hd, h⟩ := ER.on_ok h
                  obtain ⟨e2, he, h⟩ := orFail_ok h
                  have g1 := mark_ge ha
                  have g1' := mark_le ha w2
                  have g2 := prefixE_len hb g1'
                  have g3 := mark_ge hc
                  have g3' := mark_le hc g2.2
                  have g4 := prefixE_len hd g3'
                  have g5 := mark_ge he
                  have g5' := mark_le he g4.2
                  simp at h; omega
                · split at h
                  · obtain ⟨a, ha, h⟩ := orFail_ok h
                    have g1 := mark_ge ha
                    have g1' := mark_le ha w2
                    have g2 := ih _ _ _ h g1'
                    simp only [TG.pos] at g2; omega
                  · split at h
                    · obtain ⟨a, ha, h⟩ := orFail_ok h
                      obtain ⟨y, b, hb, h⟩ := ER.on_ok h
                      have g1 := mark_ge ha
                      have g1' := mark_le ha w2
                      have g2 := IT hb g1'
                      have g3 := boundsAt_len h g2.2
                      omega
                    · split at h
                      · obtain ⟨a, ha, h⟩ := orFail_ok h
                        obtain ⟨p, hp, h⟩ := orFail_ok h
                        have g1 := mark_ge ha
                        have g1' := mark_le ha w2
                        have g2 := textAt_len (t := p.1) (e := p.2) hp
                        have g3 := boundsAt_len h g2.2
                        omega
                      · split at h
                        · obtain ⟨a, ha, h⟩ := orFail_ok h
                          obtain ⟨y, b, hb, h⟩ := ER.on_ok h
                          obtain ⟨c, hc, h⟩ := orFail_ok h
                          obtain ⟨z, d, hd, h⟩ := ER.on_ok h
                          obtain ⟨e2, he, h⟩ := orFail_ok h
                          have g1 := mark_ge ha
                          have g1' := mark_le ha w2
                          have g2 := IT hb g1'
                          have g3 := mark_ge hc
                          have g3' := mark_le hc g2.2
                          have g4 := prefixE_len hd g3'
                          have g5 := mark_ge he
                          have g5' := mark_le he g4.2
                          simp at h; omega
                        · split at h
                          · obtain ⟨a, ha, h⟩ := orFail_ok h
                            obtain ⟨l, b, hb, h⟩ := ER.on_ok h
                            obtain ⟨c, hc, h⟩ := orFail_ok h
                            obtain ⟨z, d, hd, h⟩ := ER.on_ok h
                            obtain ⟨e2, he, h⟩ := orFail_ok h
                            have g1 := mark_ge ha
                            have g1' := mark_le ha w2
                            have g2 := isosAt_len hb g1'
                            have g3 := mark_ge hc
                            have g3' := mark_le hc g2.2
                            have g4 := IT hd g3'
                            have g5 := mark_ge he
                            have g5' := mark_le he g4.2
                            simp at h; omega
                          · simp at h; omega
    | tuple parts i =>
      simp only [TG.pos] at hi ⊢
      simp only [parseT] at h
      obtain ⟨y, b, hb, h⟩ := ER.on_ok h
      have g1 := IT hb hi
      split at h
      · next e2 hm =>
        have g2 := mark_ge hm
        have g2' := mark_le hm g1.2
        simp at h; omega
      · obtain ⟨c, hc, h⟩ := orFail_ok h
        have g2 := mark_ge hc
        have g2' := mark_le hc g1.2
        have g3 := ih _ _ _ h g2'
        simp only [TG.pos] at g3; omega
    | record keys parts i =>
      simp only [TG.pos] at hi ⊢
      simp only [parseT] at h
      obtain ⟨p, hp, h⟩ := orFail_ok h
      obtain ⟨a, ha, h⟩ := orFail_ok h
      obtain ⟨y, b, hb, h⟩ := ER.on_ok h
      have g0 := textAt_len (t := p.1) (e := p.2) hp
      have g0' := mark_ge ha
      have g0'' := mark_le ha g0.2
      have g1 := IT hb g0''
      split at h
      · next e2 hm =>
        have g2 := mark_ge hm
        have g2' := mark_le hm g1.2
        simp at h; omega
      · obtain ⟨c, hc, h⟩ := orFail_ok h
        have g2 := mark_ge hc
        have g2' := mark_le hc g1.2
        have g3 := ih _ _ _ h g2'
        simp only [TG.pos] at g3; omega
    | pick weights parts i =>
      simp only [TG.pos] at hi ⊢
      simp only [parseT] at h
      obtain ⟨p, hp, h⟩ := orFail_ok h
      obtain ⟨y, b, hb, h⟩ := ER.on_ok h
      have g0 := weightAt_len (n := p.1) (e := p.2) hp hi
      have g1 := IT hb g0.2
      split at h
      · next e2 hm =>
        have g2 := mark_ge hm
        have g2' := mark_le hm g1.2
        simp at h; omega
      · obtain ⟨c, hc, h⟩ := orFail_ok h
        have g2 := mark_ge hc
        have g2' := mark_le hc g1.2
        have g3 := ih _ _ _ h g2'
        simp only [TG.pos] at g3; omega

def TG.need (L : Nat) : TG → Nat
  | .term i => 16 * (L + 1) + 8 + 2 * (L + 1 - i)
  | .tuple _ i => 16 * (L + 1) + 8 + 2 * (L + 1 - i) + 1
  | .record _ _ i => 16 * (L + 1) + 8 + 2 * (L + 1 - i) + 1
  | .pick _ _ i => 16 * (L + 1) + 8 + 2 * (L + 1 - i) + 1
theorem parseT_ends (s : Bs) : ∀ (f : Nat) (g : TG), g.pos ≤ s.length → g.need s.length ≤ f → parseT s f g ≠ none := by
  intro f
  induction f with
  | zero =>
    intro g hi hn
    cases g <;> simp only [TG.need, TG.pos] at hn hi <;> omega
  | succ f ih =>
    intro g hi hn
    have IT : ∀ {i : Nat}, i ≤ s.length → 16 * (s.length + 1) + 8 + 2 * (s.length + 1 - i) ≤ f → parseT s f (.term i) ≠ none := fun hi hf => ih _ hi hf
    have LT : ∀ {i : Nat} {x : T} {e : Nat}, parseT s f (.term i) = some (some (x, e)) → i ≤ s.length → i < e ∧ e ≤ s.length := fun h hi => parseT_len s _ _ _ _ h hi
    cases g with
    | term i =>
      simp only [TG.pos] at hi; simp only [TG.need] at hn
      simp only [parseT]
      split
      · next e1 hm =>
        have h1 := mark_ge hm
        have h1' := mark_le hm hi
        simp at h1
        split
        · simp
        · exact ih _ h1' (by simp only [TG.need]; omega)
      · split
        · next e1 hm =>
          have h1 := mark_ge hm
          have h1' := mark_le hm hi
          simp at h1
          split
          · simp
          · exact ih _ h1' (by simp only [TG.need]; omega)
        · split
          · simp
          · next hw =>
            have hw1 : (word s i).1 ≠ [] := fun x => hw (.inl x)
            have w1 := word_gt hw1
            have w2 := word_le s i hi
            generalize (word s i).2 = j at w1 w2 ⊢
            split
            · simp
            · split
              · split
                · simp
                · refine orFail_ne fun a ha => ?_
                  have g1 := word_ge s j
                  have g1' := word_le s j w2
                  have g2 := mark_ge ha
                  have g2' := mark_le ha g1'
                  refine ER.on_ne (IT g2' (by omega)) fun x b hb => ?_
                  have g3 := LT hb g2'
                  split
                  · simp
                  · have g4 := word_ge s b
                    have g4' := word_le s b g3.2
                    refine ER.on_ne (prefixE_ends s f _ g4' (by omega)) fun z c hc => ?_
                    have g5 := prefixE_len hc g4'
                    split
                    · simp
                    · have g6 := word_ge s c
                      have g6' := word_le s c g5.2
                      exact ER.on_ne (IT g6' (by omega)) fun u d hd => by simp
              · split
                · refine orFail_ne fun a ha => ?_
                  have g1 := mark_ge ha
                  have g1' := mark_le ha w2
                  refine ER.on_ne (prefixE_ends s f _ g1' (by omega)) fun z c hc => ?_
                  have g2 := prefixE_len hc g1'
                  refine orFail_ne fun d hd => ?_
                  have g3' := mark_le hd g2.2
                  refine ER.on_ne (prefixE_ends s f _ g3' (by omega)) fun z c hc => ?_
                  exact orFail_ne fun d hd => by simp
                · split
                  · refine orFail_ne fun a ha => ?_
                    have g1 := mark_ge ha
                    have g1' := mark_le ha w2
                    exact ih _ g1' (by simp only [TG.need]; omega)
                  · split
                    · refine orFail_ne fun a ha => ?_
                      have g1 := mark_ge ha
                      have g1' := mark_le ha w2
                      refine ER.on_ne (IT g1' (by omega)) fun x b hb => ?_
                      have g3 := LT hb g1'
                      exact boundsAt_ends s f _ _ g3.2 (by omega)
                    · split
                      · refine orFail_ne fun a ha => orFail_ne fun p hp => ?_
                        have g2 := textAt_len (t := p.1) (e := p.2) hp
                        exact boundsAt_ends s f _ _ g2.2 (by omega)
                      · split
                        · refine orFail_ne fun a ha => ?_
                          have g1 := mark_ge ha
                          have g1' := mark_le ha w2
                          refine ER.on_ne (IT g1' (by omega)) fun x b hb => ?_
                          have g3 := LT hb g1'
                          refine orFail_ne fun c hc => ?_
                          have g4 := mark_le hc g3.2
                          refine ER.on_ne (prefixE_ends s f _ g4 (by omega)) fun z c hc => ?_
                          exact orFail_ne fun d hd => by simp
                        · split
                          · refine orFail_ne fun a ha => ?_
                            have g1 := mark_ge ha
                            have g1' := mark_le ha w2
                            refine ER.on_ne (isosAt_ends s f _ _ g1' (by omega)) fun l b hb => ?_
                            have g2 := isosAt_len hb g1'
                            refine orFail_ne fun c hc => ?_
                            have g3 := mark_ge hc
                            have g3' := mark_le hc g2.2
                            refine ER.on_ne (IT g3' (by omega)) fun x b hb => ?_
                            exact orFail_ne fun d hd => by simp
                          · simp
    | tuple parts i =>
      simp only [TG.pos] at hi; simp only [TG.need] at hn
      simp only [parseT]
      refine ER.on_ne (IT hi (by omega)) fun x b hb => ?_
      have g1 := LT hb hi
      split
      · simp
      · refine orFail_ne fun c hc => ?_
        have g2 := mark_ge hc
        have g2' := mark_le hc g1.2
        exact ih _ g2' (by simp only [TG.need]; omega)
    | record keys parts i =>
      simp only [TG.pos] at hi; simp only [TG.need] at hn
      simp only [parseT]
      refine orFail_ne fun p hp => orFail_ne fun a ha => ?_
      have g0 := textAt_len (t := p.1) (e := p.2) hp
      have g0' := mark_ge ha
      have g0'' := mark_le ha g0.2
      refine ER.on_ne (IT g0'' (by omega)) fun x b hb => ?_
      have g1 := LT hb g0''
      split
      · simp
      · refine orFail_ne fun c hc => ?_
        have g2 := mark_ge hc
        have g2' := mark_le hc g1.2
        exact ih _ g2' (by simp only [TG.need]; omega)
    | pick weights parts i =>
      simp only [TG.pos] at hi; simp only [TG.need] at hn
      simp only [parseT]
      refine orFail_ne fun p hp => ?_
      have g0 := weightAt_len (n := p.1) (e := p.2) hp hi
      refine ER.on_ne (IT g0.2 (by omega)) fun x b hb => ?_
      have g1 := LT hb g0.2
      split
      · simp
      · refine orFail_ne fun c hc => ?_
        have g2 := mark_ge hc
        have g2' := mark_le hc g1.2
        exact ih _ g2' (by simp only [TG.need]; omega)
theorem defsAt_ends (s : Bs) (f : Nat) (acc : List D) (i : Nat) (hi : i ≤ s.length) (hf : 16 * (s.length + 1) + 8 + 3 * (s.length + 1 - i) ≤ f) : defsAt s f acc i ≠ none := by
  induction f generalizing acc i with
  | zero => omega
  | succ f ih =>
    simp only [defsAt]
    split
    · simp
    · split
      · simp
      · next hw =>
        have hw1 : (word s i).1 ≠ [] := fun x => hw (.inl x)
        have w1 := word_gt hw1
        have w2 := word_le s i hi
        refine orFail_ne fun a ha => ?_
        have g1 := mark_ge ha
        have g1' := mark_le ha w2
        refine ER.on_ne (parseT_ends s f _ (by simpa [TG.pos] using g1') (by simp only [TG.need]; omega)) fun x e hx => ?_
        have g2 := parseT_len s _ _ _ _ hx (by simpa [TG.pos] using g1')
        simp only [TG.pos] at g2
        refine orFail_ne fun c hc => ?_
        have g3 := mark_ge hc
        have g3' := mark_le hc g2.2
        exact ih _ _ g3' (by omega)
/-- Enough rounds for a text. -/
def fuelOf (s : Bs) : Nat := 19 * (s.length + 1) + 8
theorem parseD_ends (s : Bs) : parseD s (fuelOf s) ≠ none := by
  unfold parseD
  split
  · simp
  · have := defsAt_ends s (fuelOf s) [] 0 (Nat.zero_le _) (by unfold fuelOf; omega)
    split
    · contradiction
    · simp
    · simp
end Go.Proofs.YtmhdcnaibleihaaGreatDoor

/- The terms' parser: a pick: the walk. -/
namespace Go.Proofs.YtmhdcnaibleihaaGreatDoor
set_option maxRecDepth 100000
open Go.RowKit
set_option linter.unusedVariables false
set_option linter.unusedSimpArgs false

theorem PSt.pm {pb xb ob base i a : Nat} {S : ByteArray} {ws : List Int} {ts : List T} {u v : Value} {ics : List (List Value)} {w w' : World} (h : PSt pb xb ob base S i ws ts u v ics w) (hm : PM 55 pb S a 0 0 w w') (h1 : xb ≠ pb) (h2 : ob ≠ pb) (h3 : pb < base) : PSt pb xb ob base S a ws ts u v ics w' :=
  ⟨hm.at_, h.box.keeps hm.keeps h1, h.out.keeps hm.keeps h2, h.row.keeps hm.keeps fun b hb e => by omega⟩
theorem rdV_none (p : Nat → Prop) (w : World) : RdV p w .none [.int .i64 0, .bool false, .int .i64 0, .string ⟨#[]⟩, .slice none 0 0, .slice none 0 0] := by
  simp only [RdV]
  exact ⟨none, 0, none, 0, [], rfl, Nat.le_refl _, Nat.le_refl _, rfl, CellsFrom.nil _ _ _, CellsFrom.nil _ _ _⟩
theorem PSt.rd {pb xb ob base i : Nat} {S : ByteArray} {ws : List Int} {ts : List T} {u v : Value} {ics : List (List Value)} {w : World} (h : PSt pb xb ob base S i ws ts u v ics w) : AT1 (.mk 2 [] .none [] ws ts [] []) (Fr base) w (pickC u v) := by
  have hk := h.row.own
  rw [List.length_map] at hk
  obtain ⟨A, c, rfl⟩ := own_form hk
  obtain ⟨B, d, rfl⟩ := h.row.row.form
  have hc : ws.length ≤ c := by
    rcases hk.2 with ⟨h1, h2⟩ | ⟨g, cap, cur, h1, _, _, h2, _⟩
    · omega
    · injection h1 with _ _ h3; omega
  exact RdT_of (kind := 2) (name := []) (keys := []) (weights := ws) (exprs := []) (isos := []) (K := none) (kc := 0) (X := none) (xc := 0) (Z := none) (zc := 0) (rdV_none _ w) (Nat.le_refl _) hc h.row.row.cap (Nat.le_refl _) (Nat.le_refl _) (CellsFrom.nil _ _ _) (cellsFrom_own hk) (h.row.row.reads movesT fun b hb => hb.1) h.row.row.cells .nil (CellsFrom.nil _ _ _) (CellsFrom.nil _ _ _)
theorem GTerm.mono {pb j : Nat} {S : ByteArray} {t : T} {w w1 : World} (hx : Ext w w1) {e : Ending} {w' : World} (h : GTerm pb S j t w1 e w') : GTerm pb S j t w e w' := by
  obtain ⟨⟨⟨cs, e1, hr⟩, hk⟩, hp⟩ := h
  exact ⟨⟨⟨cs, e1, RdT.mono (fun b hb => Nat.le_trans hx.size hb) _ _ hr⟩, (Keeps.of_ext hx).trans hk⟩, hp⟩
set_option maxHeartbeats 2000000 in
theorem pickT (S : ByteArray) (hS : S.size ≤ 100000) (H1 : Pick1H S) (Good : T → Prop) (f : Nat) (hterm : ∀ g, g < f → ∀ i t j, i ≤ S.size → parseT (tl S) g (.term i) = some (some (t, j)) → Good t → TermOK S i t j)
    (i j : Nat) (t : T) (hi : i ≤ S.size) (hp : parseT (tl S) f (.pick [] [] i) = some (some (t, j))) (hg : ∀ x ∈ t.parts, Good x) (pb : Nat) (w : World) (hpa : PA 55 w pb S i 0 0) :
    Calls Tryz.prog 44 #[.pointer (some ⟨pb, 0, none⟩)] w (GTerm pb S j t w) := by
  refine of_post fun R hR => ?_
  have hlt := hpa.lt
  generalize hn : w.heap.size = n at *
  have hx1 := ext_al w (.cells #[.pointer (some ⟨pb, 0, none⟩)] 53)
  generalize hw1 : w.alloc (.cells #[.pointer (some ⟨pb, 0, none⟩)] 53) = w1 at *
  have hs1 : w1.heap.size = n + 1 := by rw [← hw1, World.size_alloc, hn]
  have hb1 : Blk w1 n #[.pointer (some ⟨pb, 0, none⟩)] 53 := by rw [← hw1, ← hn]; exact Blk.new _ _ _
  have hm2 := madeK (S := fun b => b = pb) w1 zero13a 61 (by rintro b rfl; omega)
  have hx2 := ext_al w1 (.cells zero13a 61)
  generalize hw2 : w1.alloc (.cells zero13a 61) = w2 at *
  have hs2 : w2.heap.size = n + 2 := by rw [← hw2, World.size_alloc, hs1]
  have hx3 := ext_al w2 (.cells (pickC (.slice none 0 0) (.slice none 0 0)) 61)
  have hb3 := Blk.new w2 (pickC (.slice none 0 0) (.slice none 0 0)) 61
  generalize hw3 : w2.alloc (.cells (pickC (.slice none 0 0) (.slice none 0 0)) 61) = w3 at *
  have hs3 : w3.heap.size = n + 3 := by rw [← hw3, World.size_alloc, hs2]
  rw [hs2] at hb3
  have HST : Hid (PSt pb n (n + 2) (n + 3) S i [] [] (.slice none 0 0) (.slice none 0 0) [] w3) := Lib.hid
    ⟨hpa.on ((hx1.trans' hx2).trans' hx3), (hb1.on hx2).on hx3, hb3, PRow.nil _ _ _ (by omega)⟩
  have HX13 := Lib.hid (hx2.trans' hx3)
  have HM := Lib.hid (hm2.on hx3)
  have HS1 := Lib.hid hs1
  have HX1 := Lib.hid hx1
  have HLT := Lib.hid hlt
  -- what follows, as often as it does
  have HSOME := Lib.hid (someT 84 #[.pointer (some ⟨n, 0, none⟩), .pointer (some ⟨n + 2, 0, none⟩)] (enters_of Tryz.func84 (by kernel_rfl) rfl) S ⟨#[41]⟩ pb
    (fun k wk => ∃ g ws ts u v ics, g ≤ f ∧ parseT (tl S) g (.pick ws ts k) = some (some (t, j)) ∧ PSt pb n (n + 2) (n + 3) S k ws ts u v ics wk ∧ Keeps (KP pb (n + 2) (n + 3)) w3 wk ∧ ws.length ≤ k ∧ ts.length ≤ k ∧ k ≤ S.size)
    (fun k wk => k = j ∧ ∃ ws ts u v ics, t = .mk 2 [] .none [] ws ts [] [] ∧ PSt pb n (n + 2) (n + 3) S j ws ts u v ics wk ∧ Keeps (KP pb (n + 2) (n + 3)) w3 wk) hS (by decide) (by decide) (by decide) (by
      rintro k wk ⟨g, ws, ts, u, v, ics, hgf, hpk, hst, hkk, hl1, hl2, hk⟩
      refine ⟨hst.pa, hk, ?_⟩
      obtain ⟨g', wt, a, x, e, rfl, hwt, hpx, hnx⟩ := pick_step hpk
      have hak : k ≤ a ∧ a ≤ S.size := weightAt_le hwt hk
      have hlen := parseT_len (tl S) g' (.term a) x e hpx hak.2
      have hgx : Good x := by
        apply hg
        rcases hnx with ⟨_, rfl⟩ | ⟨_, e2, _, hn2⟩
        · simp [T.parts]
        · obtain ⟨ws', ts', rfl⟩ := pick_grows _ _ _ _ _ _ _ hn2
          simp [T.parts]
      refine (H1 pb n (n + 2) (n + 3) k a e wt x ws ts u v ics wk hk (by omega) (by omega) (by omega) (by omega) (by omega) (by omega) (by omega) (by omega) hst hwt (hterm g' (by omega) a x e hak.2 hpx hgx)).mono ?_
      rintro r w' ⟨rfl, hk', u', v', ics', hst'⟩
      refine ⟨rfl, e, hst'.pa, hlen.2, by have := hlen.1; simp only [TG.pos] at this; omega, ?_⟩
      have hpm : ∀ (q : Nat) w'', PM 55 pb S q 0 0 w' w'' → PSt pb n (n + 2) (n + 3) S q (ws ++ [wt]) (ts ++ [x]) u' v' ics' w'' ∧ Keeps (KP pb (n + 2) (n + 3)) w3 w'' := fun q w'' hq =>
        ⟨hst'.pm hq (by omega) (by omega) (by omega), (hkk.trans hk').trans (hq.keeps.mono fun b _ e => .inl e)⟩
      rcases hnx with ⟨hm, ht⟩ | ⟨hm, e2, hc, hn2⟩
      · exact .inl ⟨j, hm, fun w'' hq => ⟨rfl, _, _, u', v', ics', ht, hpm j w'' hq⟩⟩
      · have hge := mark_ge hc
        refine .inr ⟨hm, e2, hc, by simp at hge; omega, mark_le hc hlen.2, fun w'' hq => ⟨g', _, _, u', v', ics', by omega, hn2, (hpm e2 w'' hq).1, (hpm e2 w'' hq).2, ?_, ?_, mark_le hc hlen.2⟩⟩
        · have := hlen.1; simp only [TG.pos] at this; simp at hge ⊢; omega
        · have := hlen.1; simp only [TG.pos] at this; simp at hge ⊢; omega) i w3 ⟨f, [], [], _, _, _, Nat.le_refl _, hp, HST.out, Keeps.refl _ _, Nat.zero_le _, Nat.zero_le _, hi⟩ false (fun h => by cases h))
  have HE := Lib.hid (And.intro hn (And.intro hw1 (And.intro hs1 (And.intro hw2 (And.intro hs2 hw3)))))
  clear hp hterm hg H1 hpa hn hw1 hs1 hw2 hs2 hw3 hs3 hx1 hx2 hx3 hb1 hb3 hm2
  have hcb := HST.out.box.cell 0
  go_enter Tryz.func44, Tryz.ntmps44
  go_upto_region 2 with (refine wpList_store_new _ rfl 61 _ _ rfl rfl _ (pickC (.slice none 0 0) (.slice none 0 0)) _ rfl rfl info13p rfl (fun u hu => List.all_eq_true.1 (show (pickC (.slice none 0 0) (.slice none 0 0)).toList.all Value.oneCell' = true from rfl) u hu) ?_)
  obtain ⟨hn, hw1, hs1, hw2, hs2, hw3⟩ := HE.out
  rw [hw1, hw2, hw3, hn, show n + 1 + 1 = n + 2 from rfl]
  clear hn hw1 hs1 hw2 hs2 hw3
  go_upto_region 3 with (go_at_call 83; refine HSOME.out.mono ?_; rintro e w4 ⟨rfl, k, rfl, ws, ts, u, v, ics, ht, hst, hk⟩; have HS4 := Lib.hid hst; have HK4 := Lib.hid hk; have HT := Lib.hid ht; clear hst hk ht hcb)
  have HA := Lib.hid HS4.out.rd
  have hk1 : Keeps (fun b => b = pb) w1 w4 := ((Keeps.of_ext HX13.out).trans HK4.out).mono fun b hb h => by have := HS1.out; have := HLT.out; unfold KP at h; omega
  have HK1 := Lib.hid hk1
  have HM4 : Hid (MadeK (fun b => b = pb) w1 w4 zero13a 61) := Lib.hid ⟨hk1, HM.out.blk.keeps HK4.out (by have := HS1.out; have := HLT.out; unfold KP; omega), HM.out.old⟩
  have HQ : Hid (∀ b, Fr (n + 3) b → w1.heap.size < b) := Lib.hid fun b hb => by have := HS1.out; have h1 : n + 3 ≤ b := hb; omega
  have HPZ := Lib.hid HS4.out.pa
  rw [← HT.out] at HA
  go_wp2_with (first
    | (refine wpList_load_blk rfl 61 _ rfl (n + 2) _ _ HS4.out.out rfl _ Tryz.underlying61 rfl info13p ?_)
    | (refine wpList_answerK (kT t) rfl 61 _ _ rfl rfl HM4 rfl info13p HA HQ (by rw [HS1.out]; rfl) rfl ?_; intro w9 HG HK))
  exact GivenK.fin HG Tryz.results44 (by rw [HS1.out]; rfl) _ Tryz.underlying61 rfl info13p rfl fun h => hR.out _ _ (GTerm.mono HX1.out ⟨h, Blk.keeps HPZ.out HK.out (by have := HS1.out; have := HLT.out; omega)⟩)
end Go.Proofs.YtmhdcnaibleihaaGreatDoor
