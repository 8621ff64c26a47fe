/- The texts of GenerateWeighs: a pick of numbers with weights: how they are read. -/
import Derived.Test.YtnpaikdaogikcaaGreatDoorG04
import Derived.Test.YtnpaikdaogikcaaGreatDoorG23

namespace Go.Proofs.YtnpaikdaogikcaaGreatDoor
set_option maxRecDepth 100000
open Go.RowKit
set_option linter.unusedVariables false
set_option linter.unusedSimpArgs false

def dg (n : Nat) : UInt8 := UInt8.ofNat (48 + n)
theorem dg_facts : ∀ n < 10, isBl (dg n) = false ∧ isDig (dg n) = true ∧ isLet (dg n) = false ∧ isGo (dg n) = true ∧ (dg n).toNat = 48 + n := by decide
def itemB (p : Nat × Nat) : Bs := [dg p.1, 58, 32, 106, 117, 115, 116, 32, dg p.2]
def bodyB : List (Nat × Nat) → Bs
  | [] => []
  | [p] => itemB p
  | p :: q :: l => itemB p ++ 44 :: 32 :: bodyB (q :: l)
def headB : Bs := [97, 32, 61, 32, 112, 105, 99, 107, 40]
def textB (l : List (Nat × Nat)) : Bs := headB ++ (bodyB l ++ [41, 59])
theorem blanks_drop {s r : Bs} {i : Nat} (h : s.drop i = r) : blanks s i = i + (r.takeWhile isBl).length := by unfold blanks spanW; rw [h]
theorem span_drop {p : UInt8 → Bool} {s r : Bs} {i : Nat} (h : s.drop i = r) : spanW p s i = i + (r.takeWhile p).length := by unfold spanW; rw [h]
theorem at_drop {s r : Bs} {i : Nat} (h : s.drop i = r) : s[i]? = r.head? := by rw [← h, List.head?_drop]
theorem atP_drop {p : UInt8 → Bool} {s r : Bs} {i : Nat} (h : s.drop i = r) : atP p s i = match r.head? with | some c => p c | none => false := by unfold atP; rw [at_drop h]; cases r.head? <;> rfl
theorem drop_more {s r : Bs} {i : Nat} (k : Nat) (h : s.drop i = r) : s.drop (i + k) = r.drop k := by rw [← h, List.drop_drop]
theorem cut_drop {s r : Bs} {i j : Nat} (h : s.drop i = r) : cut s i (i + j) = r.take j := by unfold cut; rw [h]; congr 1; omega
theorem mark_drop {s r : Bs} {i : Nat} (t : Bs) (h : s.drop i = r) : mark s i t = if t.isPrefixOf (r.drop (r.takeWhile isBl).length) then some (i + (r.takeWhile isBl).length + t.length) else none := by
  unfold mark; rw [blanks_drop h, drop_more _ h]
theorem word_drop {s r : Bs} {i : Nat} (h : s.drop i = r) : word s i = match (r.drop (r.takeWhile isBl).length).head? with
    | some c => if isLet c then ((r.drop (r.takeWhile isBl).length).takeWhile isGo, i + (r.takeWhile isBl).length + ((r.drop (r.takeWhile isBl).length).takeWhile isGo).length) else ([], i)
    | none => ([], i) := by
  unfold word
  rw [blanks_drop h, atP_drop (drop_more _ h), span_drop (drop_more _ h), cut_drop (drop_more _ h)]
  cases (r.drop (r.takeWhile isBl).length).head? with
  | none => rfl
  | some c =>
    simp only []
    split
    · congr 1
      exact List.prefix_iff_eq_take.1 (List.takeWhile_prefix _) |>.symm
    · rfl
theorem isBl_32 : isBl 32 = true := by decide
theorem num_drop {s r : Bs} {i : Nat} (sign : Bool) {d c : UInt8} (h : s.drop i = d :: c :: r) (hd : isDig d = true) (h45 : d ≠ 45) (hc : isDig c = false) : numAt s i sign = some (((d.toNat - 48 : Nat) : Int), i + 1) := by
  have h1 : s[i]? = some d := at_drop h
  unfold numAt
  have hf : (if (sign : Prop) ∧ s[i]? = some 45 then i + 1 else i) = i := by rw [h1]; simp [h45]
  simp only [hf]
  have he : spanW isDig s i = i + 1 := by rw [span_drop h, List.takeWhile_cons, hd]; simp [hc]
  rw [he]
  have hcut : cut s i (i + 1) = [d] := by rw [cut_drop h]; rfl
  rw [hcut]
  have hn : natOf [d] = d.toNat - 48 := by simp [natOf]
  rw [hn]
  have := d.toNat_lt
  rw [if_neg (by simp), if_pos trivial, if_pos (by omega)]

theorem item_read {s rest : Bs} {i w v : Nat} {c : UInt8} {bl : Bs} (f : Nat) (hw : w < 10) (hv : v < 10) (hc : c = 44 ∨ c = 41) (hb : bl = [] ∨ bl = [32]) (h : s.drop i = bl ++ (itemB (w, v) ++ c :: rest)) :
    weightAt s i = some ((w : Int), i + bl.length + 2) ∧ parseT s (f + 1) (.term (i + bl.length + 2)) = some (some (tJust (.ofInt v), i + bl.length + 9)) ∧
    s.drop (i + bl.length + 9) = c :: rest := by
  obtain ⟨b1, b2, b3, b4, b5⟩ := dg_facts w hw
  obtain ⟨v1, v2, v3, v4, v5⟩ := dg_facts v hv
  have hbl : (s.drop i).takeWhile isBl = bl := by
    rw [h]
    rcases hb with rfl | rfl
    · simp [itemB, b1, List.takeWhile_cons]
    · simp [itemB, b1, isBl_32, List.takeWhile_cons]
  have h0 : s.drop (i + bl.length) = dg w :: 58 :: 32 :: 106 :: 117 :: 115 :: 116 :: 32 :: dg v :: c :: rest := by
    rw [drop_more _ h, List.drop_left' rfl]; rfl
  have hB : blanks s i = i + bl.length := by rw [blanks_drop rfl, hbl]
  generalize i + bl.length = k at *
  have h1 := drop_more 1 h0
  have h2 := drop_more 2 h0
  have h6 := drop_more 7 h0
  have h7 := drop_more 8 h0
  simp only [List.drop_succ_cons, List.drop_zero] at h1 h2 h6 h7
  have n45 : ∀ n < 10, dg n ≠ 45 ∧ dg n ≠ 34 := by decide
  have w45 := n45 w hw
  have v45 := n45 v hv
  refine ⟨?_, ?_, by have := drop_more 9 h0; simpa using this⟩
  · unfold weightAt
    rw [hB, atP_drop h0]
    simp only [List.head?_cons, b2, if_true]
    rw [num_drop false h0 b2 w45.1 (by decide)]
    simp only []
    rw [mark_drop _ h1]
    simp [isBl, b5]
  · have hW : word s (k + 2) = (kJust, k + 7) := by
      rw [word_drop h2]
      simp [isBl, isLet, isGo, isDig]
    have hW2 : word s (k + 7) = ([], k + 7) := by
      rw [word_drop h6]
      simp [isBl_32, v1, v3, List.takeWhile_cons]
    have hm1 : mark s (k + 2) [91] = none := by rw [mark_drop _ h2]; simp [isBl]
    have hm2 : mark s (k + 2) [123] = none := by rw [mark_drop _ h2]; simp [isBl]
    have hB2 : blanks s (k + 7) = k + 8 := by rw [blanks_drop h6]; simp [isBl_32, v1, List.takeWhile_cons]
    have hd : ¬ isDig c = true := by rcases hc with rfl | rfl <;> decide
    rw [parseT, hm1, hm2]
    simp only [hW]
    rw [if_neg (by decide), if_pos trivial]
    unfold justAt
    rw [hW2, hB2, num_drop true h7 v2 v45.1 (by simpa using hd), atP_drop h7]
    simp [kNull, kTrue, kFalse, v2, v5]

theorem items_read {s rest : Bs} : ∀ (l : List (Nat × Nat)) (f i : Nat) (bl : Bs) (ws : List Int) (ts : List T), (∀ p ∈ l, p.1 < 10 ∧ p.2 < 10) → l ≠ [] → l.length < f → (bl = [] ∨ bl = [32]) → s.drop i = bl ++ (bodyB l ++ 41 :: rest) →
    ∃ j, parseT s f (.pick ws ts i) = some (some (.mk 2 [] .none [] (ws ++ l.map fun p => (p.1 : Int)) (ts ++ l.map fun p => tJust (.ofInt p.2)) [] [], j)) ∧ s.drop j = rest
  | [], _, _, _, _, _, _, h, _, _, _ => absurd rfl h
  | [p], 0, _, _, _, _, _, _, hf, _, _ => by simp at hf
  | p :: q :: l, 0, _, _, _, _, _, _, hf, _, _ => by simp at hf
  | [p], 1, _, _, _, _, _, _, hf, _, _ => by simp at hf
  | p :: q :: l, 1, _, _, _, _, _, _, hf, _, _ => by simp at hf
  | [p], f + 2, i, bl, ws, ts, hl, _, _, hb, h => by
    have hp := hl p (by simp)
    obtain ⟨h1, h2, h3⟩ := item_read (rest := rest) f hp.1 hp.2 (.inr rfl) hb (by simpa [bodyB] using h)
    have hm : mark s (i + bl.length + 9) [41] = some (i + bl.length + 10) := by rw [mark_drop _ h3]; simp [isBl]
    refine ⟨i + bl.length + 10, ?_, by have := drop_more 1 h3; simpa using this⟩
    rw [parseT, h1]
    simp only [orFail, h2, ER.on, hm]
    simp
  | p :: q :: l, f + 2, i, bl, ws, ts, hl, _, hf, hb, h => by
    have hp := hl p (by simp)
    obtain ⟨h1, h2, h3⟩ := item_read (rest := 32 :: (bodyB (q :: l) ++ 41 :: rest)) f hp.1 hp.2 (.inl rfl) hb (by simpa [bodyB] using h)
    have hm : mark s (i + bl.length + 9) [41] = none := by rw [mark_drop _ h3]; simp [isBl]
    have hm2 : mark s (i + bl.length + 9) [44] = some (i + bl.length + 10) := by rw [mark_drop _ h3]; simp [isBl]
    have hn : s.drop (i + bl.length + 10) = [32] ++ (bodyB (q :: l) ++ 41 :: rest) := by have := drop_more 1 h3; simpa using this
    obtain ⟨j, hj, hr⟩ := items_read (q :: l) (f + 1) (i + bl.length + 10) [32] (ws ++ [(p.1 : Int)]) (ts ++ [tJust (.ofInt p.2)]) (fun x hx => hl x (by simp [List.mem_cons.1 hx])) (by simp) (by simp at hf ⊢; omega) (.inr rfl) hn
    refine ⟨j, ?_, hr⟩
    rw [parseT, h1]
    simp only [orFail, h2, ER.on, hm, hm2, hj]
    simp
theorem depths_just (l : List (Nat × Nat)) : T.depths (l.map fun p => tJust (.ofInt p.2)) ≤ 1 := by
  induction l with
  | nil => simp [T.depths]
  | cons p l ih => simp only [tJust] at ih ⊢; simp only [List.map_cons, T.depths, T.depth]; omega
theorem textB_len : ∀ (l : List (Nat × Nat)), (bodyB l).length ≤ 11 * l.length
  | [] => by simp [bodyB]
  | [p] => by simp [bodyB, itemB]
  | p :: q :: l => by
    have := textB_len (q :: l)
    simp only [bodyB, itemB, List.length_append, List.length_cons, List.length_nil] at this ⊢
    omega
theorem defs_read (l : List (Nat × Nat)) (hl : ∀ p ∈ l, p.1 < 10 ∧ p.2 < 10) (h0 : l ≠ []) (hn : l.length ≤ 10) :
    parseD (textB l) 20 = some (some [⟨[97], .mk 2 [] .none [] (l.map fun p => (p.1 : Int)) (l.map fun p => tJust (.ofInt p.2)) [] []⟩]) := by
  generalize hs : textB l = s
  have h0' : s.drop 0 = headB ++ (bodyB l ++ [41, 59]) := by rw [← hs]; rfl
  have hlen : s.length ≤ 8192 := by
    have := textB_len l
    rw [← hs]; simp only [textB, headB, List.length_append, List.length_cons, List.length_nil]; omega
  have h1 := drop_more 1 h0'
  have h3 := drop_more 3 h0'
  have h8 := drop_more 8 h0'
  have h9 := drop_more 9 h0'
  simp only [headB, Nat.zero_add, List.cons_append, List.drop_succ_cons, List.nil_append] at h0' h1 h3 h8 h9
  rw [List.drop_zero] at h1 h3 h8 h9
  obtain ⟨j, hj, hr⟩ := items_read (s := s) (rest := [59]) l 18 9 [] [] [] hl h0 (by omega) (.inl rfl) (by simpa using h9)
  have hw0 : word s 0 = ([97], 1) := by rw [word_drop h0']; simp [isBl, isLet, isGo, isDig]
  have hm1 : mark s 1 [61] = some 3 := by rw [mark_drop _ h1]; simp [isBl]
  have ha : mark s 3 [91] = none := by rw [mark_drop _ h3]; simp [isBl]
  have hb : mark s 3 [123] = none := by rw [mark_drop _ h3]; simp [isBl]
  have hw3 : word s 3 = (kPick, 8) := by rw [word_drop h3]; simp [isBl, isLet, isGo, isDig]
  have hm8 : mark s 8 [40] = some 9 := by rw [mark_drop _ h8]; simp [isBl]
  have hmj : mark s j [59] = some (j + 1) := by rw [mark_drop _ hr]; simp [isBl]
  have he := drop_more 1 hr
  have hend : s.length ≤ blanks s (j + 1) := by
    have h1 : s.length ≤ j + 1 := by simpa [List.drop_eq_nil_iff] using he
    have h2 : j + 1 ≤ blanks s (j + 1) := by unfold blanks spanW; omega
    omega
  have hT : parseT s 19 (.term 3) = some (some (.mk 2 [] .none [] (l.map fun p => (p.1 : Int)) (l.map fun p => tJust (.ofInt p.2)) [] [], j)) := by
    rw [parseT, ha, hb]
    simp only [hw3]
    rw [if_neg (by decide), if_neg (by decide), if_neg (by decide), if_neg (by decide), if_pos trivial, hm8]
    simp only [orFail, hj, List.nil_append]
  unfold parseD
  rw [if_neg (by omega), defsAt, hw0]
  rw [if_neg (by simp), if_neg (by decide), hm1]
  simp only [orFail, hT, ER.on, hmj]
  rw [defsAt, if_pos ⟨by simp, hend⟩]
  have hd := depths_just l
  have hd2 : ¬ 32 < T.depths (l.map fun p => tJust (.ofInt p.2)) + 1 := by omega
  simp [T.depth, hd2]
end Go.Proofs.YtnpaikdaogikcaaGreatDoor

/- The texts of weights, item by item. -/
namespace Go.Proofs.YtnpaikdaogikcaaGreatDoor
set_option maxRecDepth 100000
open Go.RowKit
set_option linter.unusedVariables false
set_option linter.unusedSimpArgs false

theorem bodyB_snoc (l : List (Nat × Nat)) (h : l ≠ []) (p : Nat × Nat) : bodyB (l ++ [p]) = bodyB l ++ ([44, 32] ++ itemB p) := by
  induction l with
  | nil => exact absurd rfl h
  | cons x l ih =>
    cases l with
    | nil => rfl
    | cons y l => 
      have := ih (by simp)
      simp only [List.cons_append] at this ⊢
      simp [bodyB, this]
/-- The items of a text: each weight, with its place. -/
def itm (ws : List Nat) : List (Nat × Nat) := ws.mapIdx fun i w => (1 + w % 9, i)
theorem itm_take (ws : List Nat) (i : Nat) (h : i < ws.length) : itm (ws.take (i + 1)) = itm (ws.take i) ++ [(1 + ws[i] % 9, i)] := by
  unfold itm
  rw [List.take_add_one, List.getElem?_eq_getElem h, Option.toList_some, List.mapIdx_append]
  simp [Nat.min_eq_left (Nat.le_of_lt h)]
theorem itm_len (ws : List Nat) : (itm ws).length = ws.length := by simp [itm]
theorem itm_ne (ws : List Nat) (h : ws ≠ []) : itm ws ≠ [] := by intro e; have := itm_len ws; rw [e] at this; exact h (List.length_eq_zero_iff.1 this.symm)
theorem itm_lt (ws : List Nat) (h : ws.length ≤ 10) : ∀ p ∈ itm ws, 1 ≤ p.1 ∧ p.1 < 10 ∧ p.2 < 10 := by
  intro p hp
  obtain ⟨i, hi, rfl⟩ := List.mem_mapIdx.1 hp
  refine ⟨?_, ?_, by show i < 10; omega⟩
  · show 1 ≤ 1 + ws[i] % 9
    omega
  · show 1 + ws[i] % 9 < 10
    omega
/-- The weights of a text. -/
def wei (ws : List Nat) : List Int := ws.map fun w => ((1 + w % 9 : Nat) : Int)
theorem itm_fst (ws : List Nat) : (itm ws).map (fun p => (p.1 : Int)) = wei ws := by
  unfold itm wei; apply List.ext_getElem <;> simp
theorem itm_snd (ws : List Nat) : (itm ws).map (fun p => (p.2 : Int)) = (List.range ws.length).map fun i : Nat => (i : Int) := by
  unfold itm; apply List.ext_getElem <;> simp
theorem wei_good (ws : List Nat) : ∀ n ∈ wei ws, 1 ≤ n ∧ n ≤ 1000 := by
  intro n hn
  obtain ⟨w, _, rfl⟩ := List.mem_map.1 hn
  omega
end Go.Proofs.YtnpaikdaogikcaaGreatDoor

/- The terms' parser: a pick. -/
namespace Go.Proofs.YtnpaikdaogikcaaGreatDoor
set_option maxRecDepth 100000
open Go.RowKit
set_option linter.unusedVariables false
set_option linter.unusedSimpArgs false

def T.parts : T → List T | .mk _ _ _ _ _ parts _ _ => parts
def T.weights : T → List Int | .mk _ _ _ _ w _ _ _ => w
theorem pick_grows (s : Bs) : ∀ (f i : Nat) (ws : List Int) (ts : List T) (t : T) (j : Nat), parseT s f (.pick ws ts i) = some (some (t, j)) → ∃ ws' ts', t = .mk 2 [] .none [] (ws ++ ws') (ts ++ ts') [] []
  | 0, _, _, _, _, _, h => by simp [parseT] at h
  | f + 1, i, ws, ts, t, j, h => by
    rw [parseT] at h
    cases hw : weightAt s i with
    | none => rw [hw] at h; simp [orFail] at h
    | some p =>
      rw [hw] at h
      simp only [orFail] at h
      cases hp : parseT s f (.term p.2) with
      | none => rw [hp] at h; simp [ER.on] at h
      | some r => cases r with
        | none => rw [hp] at h; simp [ER.on] at h
        | some q =>
          obtain ⟨x, e⟩ := q
          rw [hp] at h
          simp only [ER.on] at h
          cases hm : mark s e [41] with
          | some e2 => rw [hm] at h; simp at h; exact ⟨[p.1], [x], h.1.symm⟩
          | none =>
            rw [hm] at h
            simp only at h
            cases hc : mark s e [44] with
            | none => rw [hc] at h; simp at h
            | some e2 =>
              rw [hc] at h
              obtain ⟨ws', ts', e⟩ := pick_grows s f e2 _ _ t j h
              exact ⟨p.1 :: ws', x :: ts', by rw [e]; simp⟩
/-- One part of a pick, and what follows. -/
theorem pick_step {s : Bs} {f i j : Nat} {ws : List Int} {ts : List T} {t : T} (h : parseT s f (.pick ws ts i) = some (some (t, j))) : ∃ g wt a x e, f = g + 1 ∧ weightAt s i = some (wt, a) ∧ parseT s g (.term a) = some (some (x, e)) ∧
    ((mark s e [41] = some j ∧ t = .mk 2 [] .none [] (ws ++ [wt]) (ts ++ [x]) [] []) ∨ (mark s e [41] = none ∧ ∃ e2, mark s e [44] = some e2 ∧ parseT s g (.pick (ws ++ [wt]) (ts ++ [x]) e2) = some (some (t, j)))) := by
  cases f with
  | zero => simp [parseT] at h
  | succ f =>
    rw [parseT] at h
    cases hw : weightAt s i with
    | none => rw [hw] at h; simp [orFail] at h
    | some p =>
      rw [hw] at h
      simp only [orFail] at h
      cases hp : parseT s f (.term p.2) with
      | none => rw [hp] at h; simp [ER.on] at h
      | some r => cases r with
        | none => rw [hp] at h; simp [ER.on] at h
        | some q =>
          obtain ⟨x, e⟩ := q
          rw [hp] at h
          simp only [ER.on] at h
          refine ⟨f, p.1, p.2, x, e, rfl, rfl, hp, ?_⟩
          cases hm : mark s e [41] with
          | some e2 => rw [hm] at h; simp at h; exact .inl ⟨by rw [h.2], h.1.symm⟩
          | none =>
            rw [hm] at h
            simp only at h
            cases hc : mark s e [44] with
            | none => rw [hc] at h; simp at h
            | some e2 => rw [hc] at h; exact .inr ⟨rfl, e2, rfl, h⟩
theorem weightAt_le {S : ByteArray} {i a : Nat} {wt : Int} (h : weightAt (tl S) i = some (wt, a)) (hi : i ≤ S.size) : i ≤ a ∧ a ≤ S.size := by
  unfold weightAt at h
  split at h
  · cases hn : numAt (tl S) (blanks (tl S) i) false with
    | none => rw [hn] at h; simp at h
    | some p =>
      obtain ⟨n, e⟩ := p
      rw [hn] at h
      simp only [] at h
      cases hm : mark (tl S) e [58] with
      | none => rw [hm] at h; simp at h
      | some a2 =>
        rw [hm] at h
        simp at h
        obtain ⟨_, rfl⟩ := h
        have h1 := numAt_len hn
        have h2 := mark_ge hm
        have h3 := blanks_ge (tl S) i
        exact ⟨by omega, mark_le hm h1.2⟩
  · simp at h; obtain ⟨_, rfl⟩ := h; exact ⟨Nat.le_refl _, hi⟩
end Go.Proofs.YtnpaikdaogikcaaGreatDoor
