/- The terms' parser: a number that follows. -/
import Derived.Test.YtmhdcnaibleihaaGreatDoorG05
import Derived.Test.YtmhdcnaibleihaaGreatDoorG03
import Derived.Test.YtmhdcnaibleihaaGreatDoorG01
import Derived.Laws.IdiomStrings

namespace Go.Proofs.YtmhdcnaibleihaaGreatDoor
set_option maxRecDepth 100000
open Go.RowKit
set_option linter.unusedVariables false
set_option linter.unusedSimpArgs false

theorem minus_prefix (S : ByteArray) (b : Nat) : Lib.hasPrefix (S.extract b S.size).data.toList [45] = decide ((tl S)[b]? = some 45) := by
  rw [tl_drop]
  unfold Lib.hasPrefix
  cases h : (tl S).drop b with
  | nil =>
    have : (tl S)[b]? = none := by rw [← List.head?_drop, h]; rfl
    rw [this]; rfl
  | cons c r =>
    have : (tl S)[b]? = some c := by rw [← List.head?_drop, h]; rfl
    rw [this]
    by_cases hc : c = 45
    · subst hc; rfl
    · rw [decide_eq_false (fun h => hc (Option.some.inj h))]
      show ((45 : UInt8) == c && ([] : Bs).isPrefixOf r) = false
      rw [show ((45 : UInt8) == c) = false from by simpa using fun h => hc h.symm]; rfl
set_option maxHeartbeats 2000000 in
theorem numberT (S : ByteArray) (i pb : Nat) (pl : Int) (sign : Bool) (n : Int) (e : Nat) (w : World) (hp : PA 55 w pb S i pl 0) (hi : i ≤ S.size) (hS : S.size ≤ 100000) (hn : numAt (tl S) (blanks (tl S) i) sign = some (n, e)) :
    Calls Tryz.prog 78 #[.pointer (some ⟨pb, 0, none⟩), .bool sign] w fun r w' => r = .returned (.int .i64 n) ∧ PM 55 pb S e pl 0 w w' := by
  refine of_post fun R hR => ?_
  have HA := Lib.hid (aheadT S i pb pl 0 w hp hi hS)
  have hc := hp.cell
  have HPA := Lib.hid hp
  have hb := blanks_le' S hi
  clear hp
  have HM := fun w => Lib.hid (Tryz.strings_HasPrefix (S.extract (blanks (tl S) i) S.size) ⟨#[45]⟩ w)
  have hmp := minus_prefix S (blanks (tl S) i)
  rw [show (⟨#[45]⟩ : ByteArray).data.toList = [45] from rfl, hmp] at HM
  obtain ⟨first, hfirst, he, hfe, h48, hform, hpar⟩ := numAt_parse hn
  clear hn hmp
  generalize blanks (tl S) i = b at *
  have hesz : e ≤ S.size := by
    rw [he]
    by_cases hk : first ≤ S.size
    · exact spanW_le isDig (tl S) first hk
    · exfalso
      have : spanW isDig (tl S) first = first := spanW_stop _ _ _ (atP_out isDig S first (by omega))
      omega
  have hfb : first = b ∨ first = b + 1 := by rw [hfirst]; split <;> omega
  have HPR := fun w => Lib.hid (whole_parse_ok (S.extract b e) n w (by
    have : (S.extract b e).size ≤ S.size := by rw [ByteArray.size_extract]; omega
    omega) (by rw [cut_any]; exact hform) (by rw [cut_any]; exact hpar))
  have HE := Lib.hid he
  clear hform hpar he
  have HD := fun (c : UInt8) w => Lib.hid (digitT c w)
  have g1 : (b : Int) ≤ S.size := by omega
  have g2 : (S.size : Int) ≤ 100000 := by omega
  have hfl : first < S.size := by omega
  have H48 : Hid (decide ((first : Int) + 1 < e) = true → ((S[first].toNat : Int) == 48) = false) := Lib.hid fun hk => by
    have hk : first + 1 < e := by have := of_decide_eq_true hk; omega
    have : ¬ (tl S)[first]? = some 48 := fun h => h48 ⟨hk, h⟩
    rw [tl_get S first hfl] at this
    simp only [beq_eq_false_iff_ne]
    intro hz
    exact this (congrArg some (UInt8.toNat_inj.1 (by show S[first].toNat = 48; omega)))
  clear h48
  -- the loop and what stands behind it, wherever the number begins
  have hcase : (sign = false ∧ first = b) ∨ (sign = true ∧ decide ((tl S)[b]? = some 45) = false ∧ first = b) ∨ (sign = true ∧ decide ((tl S)[b]? = some 45) = true ∧ first = b + 1) := by
    cases sign with
    | false => exact .inl ⟨rfl, by rw [hfirst]; simp⟩
    | true =>
      by_cases hx : (tl S)[b]? = some 45
      · exact .inr (.inr ⟨rfl, decide_eq_true hx, by rw [hfirst, if_pos ⟨rfl, hx⟩]⟩)
      · exact .inr (.inl ⟨rfl, decide_eq_false hx, by rw [hfirst, if_neg (fun h => hx h.2)]⟩)
  clear hfirst
  generalize decide ((tl S)[b]? = some 45) = mb at *
  have hlast : decide ((first : Int) + 1 < e) = true ∨ decide ((first : Int) + 1 < e) = false := by cases decide ((first : Int) + 1 < (e : Int)) <;> simp
  have HFE := Lib.hid hfe
  clear hfe
  rcases hcase with ⟨rfl, rfl⟩ | ⟨rfl, rfl, rfl⟩ | ⟨rfl, rfl, hfb1⟩
  all_goals
    go_enter Tryz.func78, Tryz.ntmps78
    go_wp2_with (first
      | (go_at_call 12; refine HA.out.mono ?_; rintro r w ⟨rfl, rfl⟩)
      | (go_at_call 74; refine (HM _).out.mono ?_; rintro r w ⟨rfl, hw⟩; obtain rfl := hw))
    go_loopw [7] (fun iv wr => ∃ j : Nat, iv = .int .i64 j ∧ first ≤ j ∧ j ≤ S.size ∧ Hid (spanW isDig (tl S) first = spanW isDig (tl S) j) ∧ wr = w) (fun iv _ => S.size - (intOf iv).toNat)
    case atStart => exact ⟨first, by first | rfl | (rw [hfb1]; go_num), Nat.le_refl _, by omega, Lib.hid rfl, rfl⟩
    case round =>
      obtain ⟨j, rfl, hbj, hj, HB, rfl⟩ := hrel
      by_cases hjl : j < S.size
      · have HAJ := Lib.hid (atP_in isDig S j hjl)
        have HN : Hid (atP isDig (tl S) j = true → spanW isDig (tl S) first = spanW isDig (tl S) (j + 1)) := Lib.hid fun h => HB.out.trans (spanW_step _ _ _ h)
        have HZ : Hid (atP isDig (tl S) j = false → e = j) := Lib.hid fun h => HE.out.trans (HB.out.trans (spanW_stop _ _ _ h))
        have HDJ := fun w => Lib.hid (HD S[j] w).out
        clear HB HD
        cases hg : isDig S[j]
        · rw [hg] at HAJ HDJ
          obtain rfl : e = j := HZ.out HAJ.out
          clear hg HN HZ HAJ
          go_wp2_with (go_at_call 73; refine (HDJ _).out.mono ?_; rintro r w ⟨rfl, hw⟩; obtain rfl := hw)
          rcases hlast with hl | hl
          · have h48 := H48.out hl
            have hl' : (first : Int) + 1 < e := of_decide_eq_true hl
            try (subst hfb1; have hl2 : (b : Int) + 1 + 1 < e := by omega)
            clear H48 hl
            go_wp2_with (go_at_call 112; refine (HPR _).out.mono ?_; rintro r w1 ⟨rfl, hx⟩; have HX := Lib.hid hx; have HPB := Lib.hid (HPA.out.on hx); have hc1 := HPB.out.cell; have hfz := HPB.out.frozen 1; clear hx hc)
            exact hR.out _ _ ⟨rfl, PM.set (Keeps.of_ext HX.out) HPB.out e⟩
          · have hl' : ¬ (first : Int) + 1 < e := of_decide_eq_false hl
            try (subst hfb1; have hl2 : ¬ (b : Int) + 1 + 1 < e := by omega)
            clear H48 hl
            go_wp2_with (go_at_call 112; refine (HPR _).out.mono ?_; rintro r w1 ⟨rfl, hx⟩; have HX := Lib.hid hx; have HPB := Lib.hid (HPA.out.on hx); have hc1 := HPB.out.cell; have hfz := HPB.out.frozen 1; clear hx hc)
            exact hR.out _ _ ⟨rfl, PM.set (Keeps.of_ext HX.out) HPB.out e⟩
        · rw [hg] at HAJ HDJ
          have HS := Lib.hid (HN.out HAJ.out)
          clear hg HN HZ HAJ
          go_wp2_with (go_at_call 73; refine (HDJ _).out.mono ?_; rintro r w ⟨rfl, hw⟩; obtain rfl := hw)
          go_roundw
          case rel => exact ⟨j + 1, by go_num, by omega, hjl, HS, trivial⟩
          case measure => simp [intOf]; omega
      · obtain rfl : e = j := HE.out.trans (HB.out.trans (spanW_stop _ _ _ (atP_out isDig S j hjl)))
        clear HB HD
        go_wp2_with fail
        rcases hlast with hl | hl
        · have h48 := H48.out hl
          have hl' : (first : Int) + 1 < e := of_decide_eq_true hl
          try (subst hfb1; have hl2 : (b : Int) + 1 + 1 < e := by omega)
          clear H48 hl
          go_wp2_with (go_at_call 112; refine (HPR _).out.mono ?_; rintro r w1 ⟨rfl, hx⟩; have HX := Lib.hid hx; have HPB := Lib.hid (HPA.out.on hx); have hc1 := HPB.out.cell; have hfz := HPB.out.frozen 1; clear hx hc)
          exact hR.out _ _ ⟨rfl, PM.set (Keeps.of_ext HX.out) HPB.out e⟩
        · have hl' : ¬ (first : Int) + 1 < e := of_decide_eq_false hl
          try (subst hfb1; have hl2 : ¬ (b : Int) + 1 + 1 < e := by omega)
          clear H48 hl
          go_wp2_with (go_at_call 112; refine (HPR _).out.mono ?_; rintro r w1 ⟨rfl, hx⟩; have HX := Lib.hid hx; have HPB := Lib.hid (HPA.out.on hx); have hc1 := HPB.out.cell; have hfz := HPB.out.frozen 1; clear hx hc)
          exact hR.out _ _ ⟨rfl, PM.set (Keeps.of_ext HX.out) HPB.out e⟩
end Go.Proofs.YtmhdcnaibleihaaGreatDoor

/- How values, expressions, isos, terms and definitions lie in memory. -/
namespace Go.Proofs.YtmhdcnaibleihaaGreatDoor
set_option maxRecDepth 100000
open Go.RowKit
set_option linter.unusedVariables false
set_option linter.unusedSimpArgs false

inductive All2 {α p : Type} (R : α → p → Prop) : List α → List p → Prop where
  | nil : All2 R [] []
  | cons {a b l m} (h : R a b) (t : All2 R l m) : All2 R (a :: l) (b :: m)
theorem All2.length {α β : Type} {R : α → β → Prop} {l : List α} {m : List β} (h : All2 R l m) : l.length = m.length := by induction h <;> simp_all
theorem All2.imp {α β : Type} {R S : α → β → Prop} {l : List α} {m : List β} (h : All2 R l m) (hi : ∀ a b, R a b → S a b) : All2 S l m := by
  induction h with
  | nil => exact .nil
  | cons h _ ih => exact .cons (hi _ _ h) ih
theorem All2.append {α β : Type} {R : α → β → Prop} {l l' : List α} {m m' : List β} (h : All2 R l m) (h' : All2 R l' m') : All2 R (l ++ l') (m ++ m') := by
  induction h with
  | nil => exact h'
  | cons h _ ih => exact .cons h ih
theorem All2.get {α β : Type} {R : α → β → Prop} {l : List α} {m : List β} (h : All2 R l m) {i : Nat} (hi : i < l.length) : ∃ b, m[i]? = some b ∧ R l[i] b := by
  induction h generalizing i with
  | nil => simp at hi
  | cons h t ih =>
    cases i with
    | zero => exact ⟨_, rfl, h⟩
    | succ i => simpa using ih (by simpa using hi)
theorem All2.take {α β : Type} {R : α → β → Prop} {l : List α} {m : List β} (h : All2 R l m) (n : Nat) : All2 R (l.take n) (m.take n) := by
  induction h generalizing n with
  | nil => simp; exact .nil
  | cons h t ih => cases n <;> simp; exact .nil; exact .cons h (ih _)
theorem All2.drop {α β : Type} {R : α → β → Prop} {l : List α} {m : List β} (h : All2 R l m) (n : Nat) : All2 R (l.drop n) (m.drop n) := by
  induction h generalizing n with
  | nil => simp; exact .nil
  | cons h t ih => cases n; simp; exact .cons h t; simpa using ih _

/-- A slice's cells, in a block that is so. -/
def CellsFrom (p : Nat → Prop) (w : World) (A : Option Addr) (cs : List Value) : Prop :=
  cs ≠ [] → ∃ b o, A = some ⟨b, o, none⟩ ∧ p b ∧ ∀ k u, cs[k]? = some u → w.cell? ⟨b, o + k, none⟩ = some u
abbrev Fr (n : Nat) : Nat → Prop := fun b => n ≤ b
abbrev Any : Nat → Prop := fun _ => True
theorem CellsFrom.nil (p : Nat → Prop) (w : World) (A : Option Addr) : CellsFrom p w A [] := fun h => absurd rfl h
theorem CellsFrom.at_ {p : Nat → Prop} {w : World} {A : Option Addr} {cs : List Value} (h : CellsFrom p w A cs) : CellsAt w A cs := fun hn =>
  let ⟨b, o, e, _, hc⟩ := h hn
  ⟨b, o, e, hc⟩
theorem CellsFrom.ext {p : Nat → Prop} {w w' : World} {A : Option Addr} {cs : List Value} (h : CellsFrom p w A cs) (hx : Ext w w') : CellsFrom p w' A cs := fun hn =>
  let ⟨b, o, e, hb, hc⟩ := h hn
  ⟨b, o, e, hb, fun k u hk => hx.cell' (hc k u hk)⟩
theorem CellsFrom.keeps {p : Nat → Prop} {S : Nat → Prop} {w w' : World} {A : Option Addr} {cs : List Value} (h : CellsFrom p w A cs) (hx : Keeps S w w') (hs : ∀ b, p b → ¬ S b) : CellsFrom p w' A cs := fun hn =>
  let ⟨b, o, e, hb, hc⟩ := h hn
  ⟨b, o, e, hb, fun k u hk => hx.cell (hs b hb) (hc k u hk)⟩
theorem CellsFrom.mono {p q : Nat → Prop} {w : World} {A : Option Addr} {cs : List Value} (h : CellsFrom p w A cs) (hg : ∀ b, p b → q b) : CellsFrom q w A cs := fun hn =>
  let ⟨b, o, e, hb, hc⟩ := h hn
  ⟨b, o, e, hg b hb, hc⟩
theorem CellsFrom.lt {p : Nat → Prop} {w : World} {A : Option Addr} {cs : List Value} (h : CellsFrom p w A cs) : CellsFrom (fun b => p b ∧ b < w.heap.size) w A cs := fun hn => by
  obtain ⟨b, o, e, hb, hc⟩ := h hn
  refine ⟨b, o, e, ⟨hb, ?_⟩, hc⟩
  cases cs with
  | nil => exact absurd rfl hn
  | cons u l => exact lt_of_cell (hc 0 u rfl)
theorem cellsFrom_own {w : World} {base : Nat} {e : TypeId} {size n : Nat} {A : Option Addr} {c : Nat} {cs : List Value} (h : w.ownsRow base e size (.slice A n c) n cs) : CellsFrom (Fr base) w A cs := fun hn => by
  obtain ⟨b, o, rfl, hc⟩ := cellsAt_of_own h hn
  refine ⟨b, o, rfl, ?_, hc⟩
  rcases h.2 with ⟨h1, h2⟩ | ⟨g, cap, cur, hv, hb, _⟩
  · injection h1 with h1; cases h1
  · injection hv with hv; cases hv; exact hb
theorem cellsFrom_new (w : World) (cs : List Value) (t : TypeId) : CellsFrom (fun b => b = w.heap.size) (w.alloc (.cells cs.toArray t)) (some ⟨w.heap.size, 0, none⟩) cs := fun hn => by
  obtain ⟨b, o, e, hc⟩ := cellsAt_new w cs t hn
  cases e
  exact ⟨_, _, rfl, rfl, hc⟩
/-- Rows of k cells each, one behind the other. -/
def Rows2 {α : Type} (w : World) (R : α → List Value → Prop) (A : Option Addr) (l : List α) : Prop := ∃ ics, All2 R l ics ∧ CellsAt w A ics.flatten
theorem flatten_len {k : Nat} {ics : List (List Value)} (h : ∀ c ∈ ics, c.length = k) : ics.flatten.length = k * ics.length := by
  induction ics with
  | nil => simp
  | cons c l ih => simp [h c (by simp), ih fun c hc => h c (by simp [hc]), Nat.mul_succ]; omega
theorem flatten_get {k : Nat} {ics : List (List Value)} (h : ∀ c ∈ ics, c.length = k) {i j : Nat} {c : List Value} (hi : ics[i]? = some c) (hj : j < k) : ics.flatten[k * i + j]? = c[j]? := by
  induction ics generalizing i with
  | nil => simp at hi
  | cons d l ih =>
    have hd := h d (by simp)
    cases i with
    | zero =>
      simp at hi; subst hi
      simp [List.getElem?_append, hd, hj]
    | succ i =>
      have := ih (fun c hc => h c (by simp [hc])) (by simpa using hi)
      rw [List.flatten_cons, List.getElem?_append_right (by rw [hd, Nat.mul_succ]; omega), ← this]
      congr 1; rw [hd, Nat.mul_succ]; omega

mutual
def RdV (p : Nat → Prop) (w : World) : V → List Value → Prop
  | .mk k b n s items keys, cs => ∃ A c B d ics, cs = [.int .i64 k, .bool b, .int .i64 n, sv s, .slice A items.length c, .slice B keys.length d] ∧ items.length ≤ c ∧ keys.length ≤ d ∧ RdVs p w items ics ∧ CellsFrom p w A ics.flatten ∧ CellsFrom p w B (keys.map sv)
def RdVs (p : Nat → Prop) (w : World) : List V → List (List Value) → Prop
  | [], ics => ics = []
  | v :: l, ics => ∃ c r, ics = c :: r ∧ RdV p w v c ∧ RdVs p w l r
end
theorem RdVs_iff (p : Nat → Prop) (w : World) (l : List V) (ics : List (List Value)) : RdVs p w l ics ↔ All2 (RdV p w) l ics := by
  induction l generalizing ics with
  | nil => simp only [RdVs]; exact ⟨fun h => h ▸ .nil, fun h => by cases h; rfl⟩
  | cons v l ih =>
    simp only [RdVs]
    exact ⟨fun ⟨c, r, e, h, t⟩ => e ▸ .cons h ((ih r).1 t), fun h => by cases h with | cons h t => exact ⟨_, _, rfl, h, (ih _).2 t⟩⟩
mutual
theorem RdV.move {p q : Nat → Prop} {w w' : World} (hx : ∀ A cs, CellsFrom p w A cs → CellsFrom q w' A cs) : ∀ (v : V) (cs : List Value), RdV p w v cs → RdV q w' v cs
  | .mk k b n s items keys, cs, h => by
    simp only [RdV] at h ⊢
    obtain ⟨A, c, B, d, ics, e, h1, h2, h3, h4, h5⟩ := h
    exact ⟨A, c, B, d, ics, e, h1, h2, RdVs.move hx items ics h3, hx _ _ h4, hx _ _ h5⟩
theorem RdVs.move {p q : Nat → Prop} {w w' : World} (hx : ∀ A cs, CellsFrom p w A cs → CellsFrom q w' A cs) : ∀ (l : List V) (ics : List (List Value)), RdVs p w l ics → RdVs q w' l ics
  | [], ics, h => by simpa only [RdVs] using h
  | v :: l, ics, h => by
    simp only [RdVs] at h ⊢
    obtain ⟨c, r, e, h1, h2⟩ := h
    exact ⟨c, r, e, RdV.move hx v c h1, RdVs.move hx l r h2⟩
end
theorem RdV.on {p : Nat → Prop} {w w' : World} (hx : Ext w w') (v : V) (cs : List Value) (h : RdV p w v cs) : RdV p w' v cs := RdV.move (fun _ _ h => h.ext hx) v cs h
theorem RdV.keeps {p : Nat → Prop} {S : Nat → Prop} {w w' : World} (hx : Keeps S w w') (hs : ∀ b, p b → ¬ S b) (v : V) (cs : List Value) (h : RdV p w v cs) : RdV p w' v cs := RdV.move (fun _ _ h => h.keeps hx hs) v cs h
theorem RdV.mono {p q : Nat → Prop} {w : World} (hg : ∀ b, p b → q b) (v : V) (cs : List Value) (h : RdV p w v cs) : RdV q w v cs := RdV.move (fun _ _ h => h.mono hg) v cs h
theorem RdV.lt {p : Nat → Prop} {w : World} (v : V) (cs : List Value) (h : RdV p w v cs) : RdV (fun b => p b ∧ b < w.heap.size) w v cs := RdV.move (fun _ _ h => h.lt) v cs h
theorem RdV.len {p : Nat → Prop} {w : World} {v : V} {cs : List Value} (h : RdV p w v cs) : cs.length = 6 := by
  cases v; simp only [RdV] at h; obtain ⟨_, _, _, _, _, rfl, _⟩ := h; rfl

mutual
def RdE (p : Nat → Prop) (w : World) : E → List Value → Prop
  | .mk op name lit args, cs => ∃ vs A c ics, cs = sv op :: sv name :: (vs ++ [.slice A args.length c]) ∧ RdV p w lit vs ∧ args.length ≤ c ∧ RdEs p w args ics ∧ CellsFrom p w A ics.flatten
def RdEs (p : Nat → Prop) (w : World) : List E → List (List Value) → Prop
  | [], ics => ics = []
  | v :: l, ics => ∃ c r, ics = c :: r ∧ RdE p w v c ∧ RdEs p w l r
end
theorem RdEs_iff (p : Nat → Prop) (w : World) (l : List E) (ics : List (List Value)) : RdEs p w l ics ↔ All2 (RdE p w) l ics := by
  induction l generalizing ics with
  | nil => simp only [RdEs]; exact ⟨fun h => h ▸ .nil, fun h => by cases h; rfl⟩
  | cons v l ih =>
    simp only [RdEs]
    exact ⟨fun ⟨c, r, e, h, t⟩ => e ▸ .cons h ((ih r).1 t), fun h => by cases h with | cons h t => exact ⟨_, _, rfl, h, (ih _).2 t⟩⟩
mutual
theorem RdE.move {p q : Nat → Prop} {w w' : World} (hx : ∀ A cs, CellsFrom p w A cs → CellsFrom q w' A cs) : ∀ (v : E) (cs : List Value), RdE p w v cs → RdE q w' v cs
  | .mk op name lit args, cs, h => by
    simp only [RdE] at h ⊢
    obtain ⟨vs, A, c, ics, e, h1, h2, h3, h4⟩ := h
    exact ⟨vs, A, c, ics, e, RdV.move hx _ _ h1, h2, RdEs.move hx args ics h3, hx _ _ h4⟩
theorem RdEs.move {p q : Nat → Prop} {w w' : World} (hx : ∀ A cs, CellsFrom p w A cs → CellsFrom q w' A cs) : ∀ (l : List E) (ics : List (List Value)), RdEs p w l ics → RdEs q w' l ics
  | [], ics, h => by simpa only [RdEs] using h
  | v :: l, ics, h => by
    simp only [RdEs] at h ⊢
    obtain ⟨c, r, e, h1, h2⟩ := h
    exact ⟨c, r, e, RdE.move hx v c h1, RdEs.move hx l r h2⟩
end
theorem RdE.on {p : Nat → Prop} {w w' : World} (hx : Ext w w') (v : E) (cs : List Value) (h : RdE p w v cs) : RdE p w' v cs := RdE.move (fun _ _ h => h.ext hx) v cs h
theorem RdE.keeps {p : Nat → Prop} {S : Nat → Prop} {w w' : World} (hx : Keeps S w w') (hs : ∀ b, p b → ¬ S b) (v : E) (cs : List Value) (h : RdE p w v cs) : RdE p w' v cs := RdE.move (fun _ _ h => h.keeps hx hs) v cs h
theorem RdE.mono {p q : Nat → Prop} {w : World} (hg : ∀ b, p b → q b) (v : E) (cs : List Value) (h : RdE p w v cs) : RdE q w v cs := RdE.move (fun _ _ h => h.mono hg) v cs h
theorem RdE.lt {p : Nat → Prop} {w : World} (v : E) (cs : List Value) (h : RdE p w v cs) : RdE (fun b => p b ∧ b < w.heap.size) w v cs := RdE.move (fun _ _ h => h.lt) v cs h
theorem RdE.len {p : Nat → Prop} {w : World} {v : E} {cs : List Value} (h : RdE p w v cs) : cs.length = 9 := by
  cases v; simp only [RdE] at h; obtain ⟨_, _, _, _, rfl, h, _⟩ := h; simp [h.len]

def cellsI (x : I) : List Value := [sv x.name, .int .i64 x.n, sv x.key]

mutual
def RdT (p : Nat → Prop) (w : World) : T → List Value → Prop
  | .mk kind name lit keys weights parts exprs isos, cs => ∃ vs K kc W wc A c X xc Z zc ics xcs,
      cs = .int .i64 kind :: sv name :: (vs ++ [.slice K keys.length kc, .slice W weights.length wc, .slice A parts.length c, .slice X exprs.length xc, .slice Z isos.length zc]) ∧
      RdV p w lit vs ∧ keys.length ≤ kc ∧ weights.length ≤ wc ∧ parts.length ≤ c ∧ exprs.length ≤ xc ∧ isos.length ≤ zc ∧
      CellsFrom p w K (keys.map sv) ∧ CellsFrom p w W (weights.map I64) ∧ RdTs p w parts ics ∧ CellsFrom p w A ics.flatten ∧ RdEs p w exprs xcs ∧ CellsFrom p w X xcs.flatten ∧ CellsFrom p w Z (isos.flatMap cellsI)
def RdTs (p : Nat → Prop) (w : World) : List T → List (List Value) → Prop
  | [], ics => ics = []
  | v :: l, ics => ∃ c r, ics = c :: r ∧ RdT p w v c ∧ RdTs p w l r
end
theorem RdTs_iff (p : Nat → Prop) (w : World) (l : List T) (ics : List (List Value)) : RdTs p w l ics ↔ All2 (RdT p w) l ics := by
  induction l generalizing ics with
  | nil => simp only [RdTs]; exact ⟨fun h => h ▸ .nil, fun h => by cases h; rfl⟩
  | cons v l ih =>
    simp only [RdTs]
    exact ⟨fun ⟨c, r, e, h, t⟩ => e ▸ .cons h ((ih r).1 t), fun h => by cases h with | cons h t => exact ⟨_, _, rfl, h, (ih _).2 t⟩⟩
mutual
theorem RdT.move {p q : Nat → Prop} {w w' : World} (hx : ∀ A cs, CellsFrom p w A cs → CellsFrom q w' A cs) : ∀ (v : T) (cs : List Value), RdT p w v cs → RdT q w' v cs
  | .mk kind name lit keys weights parts exprs isos, cs, h => by
    simp only [RdT] at h ⊢
    obtain ⟨vs, K, kc, W, wc, A, c, X, xc, Z, zc, ics, xcs, e, h1, h2, h3, h4, h5, h6, h7, h8, h9, ha, hb, hc, hd⟩ := h
    exact ⟨vs, K, kc, W, wc, A, c, X, xc, Z, zc, ics, xcs, e, RdV.move hx _ _ h1, h2, h3, h4, h5, h6, hx _ _ h7, hx _ _ h8, RdTs.move hx parts ics h9, hx _ _ ha, RdEs.move hx _ _ hb, hx _ _ hc, hx _ _ hd⟩
theorem RdTs.move {p q : Nat → Prop} {w w' : World} (hx : ∀ A cs, CellsFrom p w A cs → CellsFrom q w' A cs) : ∀ (l : List T) (ics : List (List Value)), RdTs p w l ics → RdTs q w' l ics
  | [], ics, h => by simpa only [RdTs] using h
  | v :: l, ics, h => by
    simp only [RdTs] at h ⊢
    obtain ⟨c, r, e, h1, h2⟩ := h
    exact ⟨c, r, e, RdT.move hx v c h1, RdTs.move hx l r h2⟩
end
theorem RdT.on {p : Nat → Prop} {w w' : World} (hx : Ext w w') (v : T) (cs : List Value) (h : RdT p w v cs) : RdT p w' v cs := RdT.move (fun _ _ h => h.ext hx) v cs h
theorem RdT.keeps {p : Nat → Prop} {S : Nat → Prop} {w w' : World} (hx : Keeps S w w') (hs : ∀ b, p b → ¬ S b) (v : T) (cs : List Value) (h : RdT p w v cs) : RdT p w' v cs := RdT.move (fun _ _ h => h.keeps hx hs) v cs h
theorem RdT.mono {p q : Nat → Prop} {w : World} (hg : ∀ b, p b → q b) (v : T) (cs : List Value) (h : RdT p w v cs) : RdT q w v cs := RdT.move (fun _ _ h => h.mono hg) v cs h
theorem RdT.lt {p : Nat → Prop} {w : World} (v : T) (cs : List Value) (h : RdT p w v cs) : RdT (fun b => p b ∧ b < w.heap.size) w v cs := RdT.move (fun _ _ h => h.lt) v cs h
theorem RdT.len {p : Nat → Prop} {w : World} {v : T} {cs : List Value} (h : RdT p w v cs) : cs.length = 13 := by
  cases v; simp only [RdT] at h; obtain ⟨vs, _, _, _, _, _, _, _, _, _, _, _, _, rfl, h, _⟩ := h; simp [h.len]
end Go.Proofs.YtmhdcnaibleihaaGreatDoor

/- append(out, x): one element of any size, onto a slice that is the call's own. -/
namespace Go.Proofs.YtmhdcnaibleihaaGreatDoor
set_option maxRecDepth 100000
open Go.RowKit
set_option linter.unusedVariables false
set_option linter.unusedSimpArgs false

/-- What an append does: the row grows, or a new one is made. -/
structure Push (w : World) (v : Value) (w' : World) (v' : Value) : Prop where
  grown : w.grownBy w' v.ownBlock
  block : v'.ownBlock = v.ownBlock ∨ ∃ q, v'.ownBlock = some q ∧ w.heap.size ≤ q
theorem Push.apart {w w' : World} {v v' : Value} (h : Push w v w' v') {b : Nat} (hb : b < w.heap.size) (ha : v.ownBlock ≠ some b) : v'.ownBlock ≠ some b := by
  rcases h.block with e | ⟨q, e, hq⟩
  · rw [e]; exact ha
  · rw [e]; intro h; cases h; omega
theorem Push.cells {w w' : World} {v v' : Value} (h : Push w v w' v') {b o : Nat} {cs : List Value} (ha : v.ownBlock ≠ some b) (hc : CellsAt w (some ⟨b, o, none⟩) cs) : CellsAt w' (some ⟨b, o, none⟩) cs := fun hn => by
  obtain ⟨b', o', e, hb⟩ := hc hn
  cases e
  refine ⟨b, o, rfl, fun k u hk => ?_⟩
  have := hb k u hk
  rw [← this]
  exact h.grown.cell_far _ (lt_of_cell this) (fun e => ha e.symm)
theorem Push.cell {w w' : World} {v v' : Value} (h : Push w v w' v') {p : Addr} {u : Value} (ha : v.ownBlock ≠ some p.block) (hc : w.cell? p = some u) : w'.cell? p = some u := by
  rw [← hc]; exact h.grown.cell_far _ (lt_of_cell hc) (fun e => ha e.symm)
theorem Push.size {w w' : World} {v v' : Value} (h : Push w v w' v') : w.heap.size ≤ w'.heap.size := h.grown.size
section
variable {P : Program} (w : World)
theorem wpList_push {ops : Array Oper} {rest : List Oper} {o : Oper} {a : Act} {Q : Exit → Act → World → Prop} (hgd : o.guard = none) (s x : Operand) (t : TypeId)
    (ho : o.op = .call { callee := .builtin .append, args := #[s, x], argTypes := #[t, t] })
    (w0 : World) (e : TypeId) (z : Value) (k bytes : Nat) (ht : P.underlying t = some (.slice e)) (hi : (P.info? e).map (fun i => (i.zero, i.size, i.bytes)) = some (some z, k, bytes))
    (hzs : z.cells.size = k) (hk : 0 < k) (cs : Array Value) (hcs : cs.size = k)
    (v : Value) (n : Nat) (us : List Value) (hs : a.eval s = v) (hown : w.ownsRow w0.heap.size e k v n us)
    (h1 : ∀ u ∈ cs.toList, u.oneCell' = true) (hx : a.eval x = .slice (some ⟨w.heap.size, 0, none⟩) 1 1)
    (hn : n ≤ 1000000) (hb : bytes ≤ 100000) (hX : Ext w0 w)
    (h : ∀ v' w', Hid (w'.ownsRow w0.heap.size e k v' (n + 1) (us ++ cs.toList)) → Hid (Ext w0 w') → Hid (Push w v w' v') → wpList P ops Q rest (a.put o.dst v') w') : wpList P ops Q (o :: rest) a (w.alloc (.cells cs e)) := by
  obtain ⟨i, hq, hs'⟩ := Option.map_eq_some_iff.1 hi
  simp only [Prod.mk.injEq] at hs'
  obtain ⟨hz, hsz, hby⟩ := hs'
  have hnb : (n + 1) * bytes ≤ 140737488355328 := by
    have := Nat.mul_le_mul (show n + 1 ≤ 1000001 by omega) hb
    omega
  refine wpList_append_src (w.alloc (.cells cs e)) hgd s x t ho w0.heap.size e i z k bytes ht hq hz hsz hby hzs hk v n us hs (hown.alloc _) _ 1 1 cs.toList hx (by simp [hcs]) ?_ h1 hnb (by unfold maxLen; omega) (by simp; have := hX.size; omega) ?_
  · have := cellsAt_new w cs.toList e
    simpa using this
  · intro v' w' h2 h3 h4
    refine h v' w' (Lib.hid h2) (Lib.hid (ext_grown_from (hX.alloc' _) h3 fun g hg => (hown.lt g hg).1)) (Lib.hid ⟨(World.grownBy_alloc w _ _).trans h3, h4.imp id fun e => ⟨_, e, by simp⟩⟩)
end
theorem own_nil (w0 w : World) (e : TypeId) (k : Nat) : w.ownsRow w0.heap.size e k (.slice none 0 0) 0 [] := ⟨by simp, .inl ⟨rfl, rfl⟩⟩
/-- string(b) of bytes that are read. -/
theorem run_string_bytes {P : Program} (w : World) (src dst e : TypeId) (A : Option Addr) (cap : Nat) (l : List UInt8) (hs : P.underlying src = some (.slice e)) (he : P.underlying e = some (.int .u8)) (hd : P.underlying dst = some .string)
    (hc : CellsAt w A (l.map fun b => .int .u8 (b.toNat : Int))) :
    (convert src dst (.slice A l.length cap)).run P w = .ok (.string ⟨l.toArray⟩) w := by
  by_cases hl : l = []
  · subst hl
    cases A with
    | none => rw [run_convert_bytes_string w src dst e none _ cap hs he hd]; rfl
    | some a => exact run_convert_bytes_back w src dst e a cap [] hs he hd (fun j hj => by simp at hj)
  · obtain ⟨b, o, rfl, hb⟩ := hc (by simpa using hl)
    refine run_convert_bytes_back w src dst e _ cap l hs he hd fun j hj => ?_
    rw [addr_add]
    exact hb j _ (by rw [List.getElem?_map, List.getElem?_eq_getElem hj]; rfl)
end Go.Proofs.YtmhdcnaibleihaaGreatDoor
