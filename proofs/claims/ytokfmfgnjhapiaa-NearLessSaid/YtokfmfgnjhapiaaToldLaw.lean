/- What near.All tells, in plain words; the row of a phase, held. -/
import Derived.Test.YtokfmfgnjhapiaaEachLaw
namespace Go.Proofs.Ytokfmfgnjhapiaa
open Go.RowKit
set_option linter.unusedVariables false
set_option linter.unusedSimpArgs false

def putL : List (List Int) → List Int → List (List Int)
  | [], l => [l]
  | a :: t, l => if lessL a l = true then a :: putL t l else if a = l then a :: t else l :: a :: t
def setOf (L : List (List Int)) : List (List Int) := L.foldl putL []

theorem mem_putL {y l : List Int} : ∀ {D : List (List Int)}, y ∈ putL D l ↔ y = l ∨ y ∈ D
  | [] => by simp [putL]
  | a :: t => by
    unfold putL
    split
    · simp only [List.mem_cons, mem_putL (D := t)]
      constructor
      · rintro (h | h | h) <;> simp [h]
      · rintro (h | h | h) <;> simp [h]
    · split
      · rename_i e; subst e
        simp only [List.mem_cons]
        constructor
        · intro h; exact .inr h
        · rintro (h | h)
          · exact .inl h
          · exact h
      · simp [List.mem_cons]
theorem rising_putL {l : List Int} : ∀ {D : List (List Int)}, Rising D → Rising (putL D l)
  | [], _ => by simp [putL, Rising]
  | a :: t, h => by
    have h' := List.pairwise_cons.1 h
    unfold putL
    split
    · rename_i hal
      refine List.pairwise_cons.2 ⟨fun y hy => ?_, rising_putL h'.2⟩
      rcases mem_putL.1 hy with rfl | hy
      · exact hal
      · exact h'.1 y hy
    · rename_i hal
      split
      · exact h
      · rename_i hne
        have hla : lessL l a = true := by
          cases hx : lessL l a with
          | true => rfl
          | false => exact absurd (lessL_eq (by simpa using hal) hx) hne
        refine List.pairwise_cons.2 ⟨fun y hy => ?_, h⟩
        rcases List.mem_cons.1 hy with rfl | hy
        · exact hla
        · exact lessL_trans hla (h'.1 y hy)
theorem foldl_putL {y : List Int} : ∀ {L D : List (List Int)}, (y ∈ L.foldl putL D ↔ y ∈ L ∨ y ∈ D) ∧ (Rising D → Rising (L.foldl putL D))
  | [], D => by simp
  | a :: L, D => by
    have h := foldl_putL (y := y) (L := L) (D := putL D a)
    refine ⟨?_, fun hr => h.2 (rising_putL hr)⟩
    rw [List.foldl_cons, h.1, mem_putL, List.mem_cons]
    constructor
    · rintro (h | h | h) <;> simp [h]
    · rintro ((h | h) | h) <;> simp [h]
theorem mem_setOf {y : List Int} {L : List (List Int)} : y ∈ setOf L ↔ y ∈ L := by simp [setOf, foldl_putL.1]
theorem rising_setOf (L : List (List Int)) : Rising (setOf L) := (foldl_putL (y := [])).2 List.Pairwise.nil

/-- Two rising lists of the same members are one. -/
theorem rising_ext : ∀ {D E : List (List Int)}, Rising D → Rising E → (∀ y, y ∈ D ↔ y ∈ E) → D = E
  | [], [], _, _, _ => rfl
  | [], b :: E, _, _, h => absurd ((h b).2 (by simp)) (by simp)
  | a :: D, [], _, _, h => absurd ((h a).1 (by simp)) (by simp)
  | a :: D, b :: E, hd, he, h => by
    have hd' := List.pairwise_cons.1 hd
    have he' := List.pairwise_cons.1 he
    have hab : a = b := by
      rcases List.mem_cons.1 ((h a).1 (by simp)) with e | e
      · exact e
      · rcases List.mem_cons.1 ((h b).2 (by simp)) with e2 | e2
        · exact e2.symm
        · have h1 := he'.1 a e
          have h2 := hd'.1 b e2
          rw [lessL_asymm h1] at h2; cases h2
    subst hab
    rw [rising_ext hd'.2 he'.2 fun y => ?_]
    constructor
    · intro hy
      rcases List.mem_cons.1 ((h y).1 (by simp [hy])) with e | e
      · exact absurd e.symm (lessL_ne (hd'.1 y hy))
      · exact e
    · intro hy
      rcases List.mem_cons.1 ((h y).2 (by simp [hy])) with e | e
      · exact absurd e.symm (lessL_ne (he'.1 y hy))
      · exact e

def spansL (xs : List Int) (m : Nat) : List (List Int) := (List.range (xs.length - m + 1)).map (cutL xs m)
def changesL (xs : List Int) : List (List Int) := (List.range xs.length).flatMap (chgL xs)
def phases (xs : List Int) (k : Nat) : List (List Int) := (List.range (xs.length - k)).flatMap fun i => setOf (spansL xs (xs.length - i))
def toldL (xs : List Int) : List (List Int) := if mayL xs = true then phases xs 0 ++ setOf (changesL xs) else []

theorem phases_top (xs : List Int) : phases xs xs.length = [] := by simp [phases]
theorem phases_step (xs : List Int) {k : Nat} (hk : k + 1 ≤ xs.length) : phases xs k = phases xs (k + 1) ++ setOf (spansL xs (k + 1)) := by
  unfold phases
  have h1 : xs.length - k = (xs.length - (k + 1)) + 1 := by omega
  rw [h1, List.range_succ, List.flatMap_append]
  simp only [List.flatMap_singleton]
  congr 3
  omega
theorem range_prefix {a b : Nat} (h : a ≤ b) : List.range a <+: List.range b := by
  obtain ⟨c, rfl⟩ := Nat.exists_eq_add_of_le h
  rw [List.range_add]
  exact List.prefix_append _ _
theorem phases_prefix (xs : List Int) {k k' : Nat} (h : k ≤ k') : phases xs k' <+: phases xs k := by
  obtain ⟨t, ht⟩ := range_prefix (show xs.length - k' ≤ xs.length - k by omega)
  unfold phases
  rw [← ht, List.flatMap_append]
  exact List.prefix_append _ _
theorem spansL_length {xs : List Int} {m : Nat} {y : List Int} (hm : m ≤ xs.length) (h : y ∈ spansL xs m) : y.length = xs.length - m := by
  obtain ⟨k, hk, rfl⟩ := List.mem_map.1 h
  have := List.mem_range.1 hk
  unfold cutL
  rw [List.length_append, List.length_take, List.length_drop]
  omega
theorem chgL_length {xs : List Int} {k : Nat} {y : List Int} (h : y ∈ chgL xs k) : y.length = xs.length := by
  unfold chgL downs turnsL at h
  rcases List.mem_append.1 h with h | h
  · split at h
    · simp only [List.mem_cons, List.not_mem_nil, or_false] at h
      rcases h with rfl | rfl | rfl <;> simp
    · cases h
  · split at h
    · simp only [List.mem_singleton] at h
      subst h; simp
    · cases h
theorem changesL_length {xs : List Int} {y : List Int} (h : y ∈ changesL xs) : y.length = xs.length := by
  obtain ⟨k, _, hk⟩ := List.mem_flatMap.1 h
  exact chgL_length hk
theorem changesL_few (xs : List Int) : (changesL xs).length ≤ 4 * xs.length := by
  have : ∀ k, ((List.range k).flatMap (chgL xs)).length ≤ 4 * k := fun k => by
    induction k with
    | zero => simp
    | succ k ih =>
      rw [List.range_succ, List.flatMap_append, List.length_append]
      have : (chgL xs k).length ≤ 4 := by
        unfold chgL downs turnsL
        split <;> split <;> simp
      simp only [List.flatMap_singleton]
      omega
  exact this _

theorem Built.nil (w : World) : Built w (w.alloc (.cells #[.slice none 0 0] 63)) w.heap.size (.slice none 0 0) [] [] :=
  ⟨⟨⟨by simp, by simp, World.ownsRow_nil _ _ _ _, by simp [Value.ownBlock]⟩, fun e he => absurd he (by simp)⟩, (Ext.refl' w).alloc' _, Nat.le_refl _, fun g hg => absurd hg (by simp [Value.ownBlock]), fun e he => absurd he (by simp), List.Pairwise.nil, List.Perm.refl _, fun i _ h => absurd h (by simp), fun e he => absurd he (by simp)⟩
theorem Built.held {w0 w : World} {r : Nat} {v : Value} {H : List IRow} {L : List (List Int)} (h : Built w0 w r v H L) {T : Nat → Prop} (hT : ∀ b, T b → b < w0.heap.size) : Held (grow T w0 w) w r v H :=
  ⟨h.row, .inr ⟨h.here, lt_of_cell h.row.row.cell⟩, fun g hg => .inr ⟨h.own g hg, (h.row.row.own.lt g hg).2⟩, fun e he b hb => .inr ⟨h.ents e he b hb, blk_lt (h.row.ents e he).1 hb⟩, h.apart, h.heap,
    fun b hb => hb.elim (fun q => Nat.lt_of_lt_of_le (hT b q) h.ext.size) fun q => q.2, h.soft⟩
theorem Built.inv {w0 w : World} {r : Nat} {v : Value} {H : List IRow} {L : List (List Int)} (h : Built w0 w r v H L) : EInv [] (setOf L) (H.map IRow.xs) :=
  ⟨fun y hy => h.perm.mem_iff.2 (mem_setOf.1 hy), fun y hy => .inl (mem_setOf.2 (h.perm.mem_iff.1 hy))⟩
theorem Built.few {w0 w : World} {r : Nat} {v : Value} {H : List IRow} {L : List (List Int)} (h : Built w0 w r v H L) : H.length = L.length := by simpa using h.perm.length_eq
theorem Steady.built {J : List (List Int) → (Nat → Prop) → World → Prop} (hJ : Steady J) {w0 w : World} {r : Nat} {v : Value} {H : List IRow} {L : List (List Int)} (h : Built w0 w r v H L) {T : Nat → Prop} {pre : List (List Int)} (h0 : J pre T w0) : J pre (grow T w0 w) w :=
  hJ _ _ _ _ _ h0 (Keeps.of_ext h.ext) fun b hb => hb.imp id fun q => q.1
end Go.Proofs.Ytokfmfgnjhapiaa
