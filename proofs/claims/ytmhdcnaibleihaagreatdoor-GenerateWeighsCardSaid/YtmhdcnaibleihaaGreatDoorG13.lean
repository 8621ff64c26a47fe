/- The terms' parser: as many things as follow, with commas between. -/
import Derived.Test.YtmhdcnaibleihaaGreatDoorG05
import Derived.Deep.CutBlock
import Derived.Deep.DeepCutAuto
import Derived.Test.YtmhdcnaibleihaaGreatDoorG12

namespace Go.Proofs.YtmhdcnaibleihaaGreatDoor
set_option maxRecDepth 100000
open Go.RowKit
set_option linter.unusedVariables false
set_option linter.unusedSimpArgs false

def atOf (pb : Nat) (w : World) : Nat := match w.cell? ⟨pb, 1, none⟩ with | some (.int _ n) => n.toNat | _ => 0
theorem PA.atOf {t : TypeId} {w : World} {pb i : Nat} {S : ByteArray} {pl c : Int} (h : PA t w pb S i pl c) : atOf pb w = i := by
  unfold Go.Proofs.YtmhdcnaibleihaaGreatDoor.atOf; rw [h.cell]; simp
/-- What one thing leaves: it is the last, or another one follows. -/
structure Another (pb : Nat) (S E : ByteArray) (St Fin : Nat → World → Prop) (i b : Nat) (w' : World) : Prop where
  pa : PA 55 w' pb S b 0 0
  le : b ≤ S.size
  lt : i < b
  next : (∃ j, mark (tl S) b (tl E) = some j ∧ ∀ w'', PM 55 pb S j 0 0 w' w'' → Fin j w'') ∨
    (mark (tl S) b (tl E) = none ∧ ∃ a, mark (tl S) b [44] = some a ∧ b < a ∧ a ≤ S.size ∧ ∀ w'', PM 55 pb S a 0 0 w' w'' → St a w'')
set_option maxHeartbeats 1000000 in
theorem someT (f : FuncId) (lb : Array Value) (hent : Enters Tryz.prog f) (S E : ByteArray) (pb : Nat) (St Fin : Nat → World → Prop) (hS : S.size ≤ 100000) (hE : 0 < E.size) (hE2 : E.size ≤ 1000) (hl : isLet E[0] = false)
    (hone : ∀ i w, St i w → PA 55 w pb S i 0 0 ∧ i ≤ S.size ∧ Calls Tryz.prog f lb w fun e w' => e = .returned (.tuple #[]) ∧ ∃ b, Another pb S E St Fin i b w')
    (i0 : Nat) (w : World) (h0 : St i0 w) (nn : Bool) (hn : nn = true → mark (tl S) i0 (tl E) = none) :
    Calls Tryz.prog 83 #[.pointer (some ⟨pb, 0, none⟩), .func (.func f) #[] lb, .string E, .bool nn] w fun e w' => e = .returned (.tuple #[]) ∧ ∃ j, Fin j w' := by
  refine of_post fun R hR => ?_
  obtain ⟨hpa, hi, _⟩ := hone i0 w h0
  have HPA := Lib.hid hpa
  have HO := fun i w h => Lib.hid (hone i w h)
  have H0 := Lib.hid h0
  have HL := Lib.hid hl
  unfold Enters at hent
  clear hone hpa h0 hl
  have hgo : ∀ b : Bool, (b = true → mark (tl S) i0 (tl E) = none) → Calls Tryz.prog 83 #[.pointer (some ⟨pb, 0, none⟩), .func (.func f) #[] lb, .string E, .bool b] w R := by
    intro b hb
    have HMN : Hid (b = true → ∀ w, PA 55 w pb S i0 0 0 → Calls Tryz.prog 40 #[.pointer (some ⟨pb, 0, none⟩), .string E] w fun e w' => e = .returned (.bool false) ∧ w' = w) := Lib.hid fun h w hp => markT_no S E i0 pb 0 0 w hp hi hS (.inr (hb h))
    clear hb hn
    cases b
    all_goals
      go_enter Tryz.func83, Tryz.ntmps83
      go_wp2_with (go_at_call 40; refine (HMN.out rfl _ HPA.out).mono ?_; rintro e w ⟨rfl, hw⟩; obtain rfl := hw)
      clear HMN
      go_loopw [] (fun wr => ∃ i, Hid (St i wr)) (fun wr => S.size - atOf pb wr)
      case atStart => exact ⟨i0, H0⟩
      case round =>
        obtain ⟨i, HS⟩ := hrel
        obtain ⟨hpi, hii, hcall⟩ := (HO i _ HS.out).out
        have hc := hpi.cell
        have HC := Lib.hid hcall
        have HAT := Lib.hid hpi.atOf
        clear hcall hpi H0
        go_upto_region 3 with (refine HC.out.mono ?_; rintro e w1 ⟨rfl, b, hb⟩; have HB := Lib.hid hb; clear hb hc)
        obtain ⟨j, hj, hf⟩ | ⟨hm, a, ha, hba, has, hst⟩ := HB.out.next
        · have HF := Lib.hid hf
          have HMY := Lib.hid (markT_yes S E b j pb 0 w1 HB.out.pa HB.out.le hS hE hE2 hj (.inl HL.out))
          clear hj hf
          go_wp2_with (go_at_call 40; refine HMY.out.mono ?_; rintro e w2 ⟨rfl, hm⟩; have HM2 := Lib.hid hm; clear hm)
          exact bodyPost_ret (results_none Tryz.results83 _ _ _) rfl (hR.out _ _ ⟨rfl, j, HF.out _ HM2.out⟩)
        · have HST := Lib.hid hst
          have HMN := Lib.hid (markT_no S E b pb 0 0 w1 HB.out.pa HB.out.le hS (.inr hm))
          have HND := Lib.hid (needT S ⟨#[44]⟩ b a pb 0 w1 HB.out.pa HB.out.le hS (by decide) (by decide) ha (.inl (by decide)))
          have HLT := Lib.hid (show i < a from Nat.lt_trans HB.out.lt hba)
          have HAS := Lib.hid has
          clear hm ha hst hba has
          go_wp2_with (first
            | (go_at_call 40; refine HMN.out.mono ?_; rintro e w1 ⟨rfl, hm⟩; obtain rfl := hm)
            | (go_at_call 27; refine HND.out.mono ?_; rintro e w2 ⟨rfl, hm⟩; have HM2 := Lib.hid hm; clear hm))
          go_roundw
          case rel => exact ⟨a, Lib.hid (HST.out _ HM2.out)⟩
          case measure => have h1 := HM2.out.at_.atOf; have h2 := HAT.out; have h3 := HLT.out; have h4 := HAS.out; omega
  exact hgo nn hn
end Go.Proofs.YtmhdcnaibleihaaGreatDoor

/- The terms' parser: a pick's state. -/
namespace Go.Proofs.YtmhdcnaibleihaaGreatDoor
set_option maxRecDepth 100000
open Go.RowKit
set_option linter.unusedVariables false
set_option linter.unusedSimpArgs false

abbrev pickC (u v : Value) : Array Value := #[.int .i64 2, .string ⟨#[]⟩, .int .i64 0, .bool false, .int .i64 0, .string ⟨#[]⟩, .slice none 0 0, .slice none 0 0, .slice none 0 0, u, v, .slice none 0 0, .slice none 0 0]
/-- A pick's state: the parser, the closure's variables, the rows. -/
structure PSt (pb xb ob base : Nat) (S : ByteArray) (i : Nat) (ws : List Int) (ts : List T) (u v : Value) (ics : List (List Value)) (w : World) : Prop where
  pa : PA 55 w pb S i 0 0
  box : Blk w xb #[.pointer (some ⟨pb, 0, none⟩)] 53
  out : Blk w ob (pickC u v) 61
  row : PRow base 3 u (ws.map I64) v ts ics w
theorem cellsAt_new' (w : World) (cs : Array Value) (t : TypeId) : CellsAt (w.alloc (.cells cs t)) (some ⟨w.heap.size, 0, none⟩) cs.toList := by
  have := cellsAt_new w cs.toList t; simpa using this
abbrev KP (pb ob base : Nat) : Nat → Prop := fun b => b = pb ∨ b = ob ∨ base ≤ b
theorem pick_fin {pb xb ob base i : Nat} {S : ByteArray} {wt : Int} {t : T} {ws : List Int} {ts : List T} {u v u1 v1 : Value} {ics : List (List Value)} {w w4 : World} (hpa : Hid (PA 55 w4 pb S i 0 0)) (hxb : Hid (Blk w4 xb #[.pointer (some ⟨pb, 0, none⟩)] 53))
    (hob : Hid (Blk w4 ob (pickC u v) 61)) (hro : Hid (PRow base 3 u1 (ws.map I64 ++ [.int .i64 wt]) v1 (ts ++ [t]) ics w4)) (hke : Hid (Keeps (KP pb ob base) w w4)) (hd : Hid (pb ≠ xb ∧ pb ≠ ob ∧ xb ≠ ob)) (hb : Hid (pb < base ∧ xb < base ∧ ob < base)) :
    Keeps (KP pb ob base) w ((w4.setCell ⟨ob, 9, none⟩ u1).setCell ⟨ob, 10, none⟩ v1) ∧ ∃ u' v' ics', PSt pb xb ob base S i (ws ++ [wt]) (ts ++ [t]) u' v' ics' ((w4.setCell ⟨ob, 9, none⟩ u1).setCell ⟨ob, 10, none⟩ v1) := by
  obtain ⟨d1, d2, d3⟩ := hd.out
  obtain ⟨b1, b2, b3⟩ := hb.out
  have hk : Keeps (fun b => b = ob) w4 ((w4.setCell ⟨ob, 9, none⟩ u1).setCell ⟨ob, 10, none⟩ v1) := (Keeps.set w4 ⟨ob, 9, none⟩ u1).trans (Keeps.set _ ⟨ob, 10, none⟩ v1)
  refine ⟨hke.out.trans (hk.mono fun k _ e => .inr (.inl e)), u1, v1, ics, Blk.keeps hpa.out hk d2, hxb.out.keeps hk d3, (hob.out.set (i := 9) u1).set (i := 10) v1, ?_⟩
  have := hro.out.keeps hk fun b hb e => by omega
  rw [List.map_append]; exact this
/-- A part of a pick is read. -/
def Pick1H (S : ByteArray) : Prop := ∀ (pb xb ob base i a j : Nat) (wt : Int) (t : T) (ws : List Int) (ts : List T) (u v : Value) (ics : List (List Value)) (w : World), i ≤ S.size →
    pb < base → xb < base → ob < base → pb ≠ xb → pb ≠ ob → xb ≠ ob → ws.length ≤ 100000 → ts.length ≤ 100000 →
    PSt pb xb ob base S i ws ts u v ics w → weightAt (tl S) i = some (wt, a) → TermOK S a t j →
    Calls Tryz.prog 84 #[.pointer (some ⟨xb, 0, none⟩), .pointer (some ⟨ob, 0, none⟩)] w fun e w' => e = .returned (.tuple #[]) ∧ Keeps (KP pb ob base) w w' ∧ ∃ u' v' ics', PSt pb xb ob base S j (ws ++ [wt]) (ts ++ [t]) u' v' ics' w'
end Go.Proofs.YtmhdcnaibleihaaGreatDoor

/- The terms' parser: a pick. -/
namespace Go.Proofs.YtmhdcnaibleihaaGreatDoor
set_option maxRecDepth 100000
open Go.RowKit
set_option linter.unusedVariables false
set_option linter.unusedSimpArgs false

def T.parts : T → List T | .mk _ _ _ _ _ parts _ _ => parts
def T.weights : T → List Int | .mk _ _ _ _ w _ _ _ => w
theorem pick_grows (s : Bs) : ∀ (f i : Nat) (ws : List Int) (ts : List T) (t : T) (j : Nat), parseT s f (.pick ws ts i) = some (some (t, j)) → ∃ ws' ts', t = .mk 2 [] .none [] (ws ++ ws') (ts ++ ts') [] []
  | 0, _, _, _, _, _, h => by simp [parseT] at h
  | f + 1, i, ws, ts, t, j, h => by
    rw [parseT] at h
    cases hw : weightAt s i with
    | none => rw [hw] at h; simp [orFail] at h
    | some p =>
      rw [hw] at h
      simp only [orFail] at h
      cases hp : parseT s f (.term p.2) with
      | none => rw [hp] at h; simp [ER.on] at h
      | some r => cases r with
        | none => rw [hp] at h; simp [ER.on] at h
        | some q =>
          obtain ⟨x, e⟩ := q
          rw [hp] at h
          simp only [ER.on] at h
          cases hm : mark s e [41] with
          | some e2 => rw [hm] at h; simp at h; exact ⟨[p.1], [x], h.1.symm⟩
          | none =>
            rw [hm] at h
            simp only at h
            cases hc : mark s e [44] with
            | none => rw [hc] at h; simp at h
            | some e2 =>
              rw [hc] at h
              obtain ⟨ws', ts', e⟩ := pick_grows s f e2 _ _ t j h
              exact ⟨p.1 :: ws', x :: ts', by rw [e]; simp⟩
/-- One part of a pick, and what follows. -/
theorem pick_step {s : Bs} {f i j : Nat} {ws : List Int} {ts : List T} {t : T} (h : parseT s f (.pick ws ts i) = some (some (t, j))) : ∃ g wt a x e, f = g + 1 ∧ weightAt s i = some (wt, a) ∧ parseT s g (.term a) = some (some (x, e)) ∧
    ((mark s e [41] = some j ∧ t = .mk 2 [] .none [] (ws ++ [wt]) (ts ++ [x]) [] []) ∨ (mark s e [41] = none ∧ ∃ e2, mark s e [44] = some e2 ∧ parseT s g (.pick (ws ++ [wt]) (ts ++ [x]) e2) = some (some (t, j)))) := by
  cases f with
  | zero => simp [parseT] at h
  | succ f =>
    rw [parseT] at h
    cases hw : weightAt s i with
    | none => rw [hw] at h; simp [orFail] at h
    | some p =>
      rw [hw] at h
      simp only [orFail] at h
      cases hp : parseT s f (.term p.2) with
      | none => rw [hp] at h; simp [ER.on] at h
      | some r => cases r with
        | none => rw [hp] at h; simp [ER.on] at h
        | some q =>
          obtain ⟨x, e⟩ := q
          rw [hp] at h
          simp only [ER.on] at h
          refine ⟨f, p.1, p.2, x, e, rfl, rfl, hp, ?_⟩
          cases hm : mark s e [41] with
          | some e2 => rw [hm] at h; simp at h; exact .inl ⟨by rw [h.2], h.1.symm⟩
          | none =>
            rw [hm] at h
            simp only at h
            cases hc : mark s e [44] with
            | none => rw [hc] at h; simp at h
            | some e2 => rw [hc] at h; exact .inr ⟨rfl, e2, rfl, h⟩
theorem weightAt_le {S : ByteArray} {i a : Nat} {wt : Int} (h : weightAt (tl S) i = some (wt, a)) (hi : i ≤ S.size) : i ≤ a ∧ a ≤ S.size := by
  unfold weightAt at h
  split at h
  · cases hn : numAt (tl S) (blanks (tl S) i) false with
    | none => rw [hn] at h; simp at h
    | some p =>
      obtain ⟨n, e⟩ := p
      rw [hn] at h
      simp only [] at h
      cases hm : mark (tl S) e [58] with
      | none => rw [hm] at h; simp at h
      | some a2 =>
        rw [hm] at h
        simp at h
        obtain ⟨_, rfl⟩ := h
        have h1 := numAt_len hn
        have h2 := mark_ge hm
        have h3 := blanks_ge (tl S) i
        exact ⟨by omega, mark_le hm h1.2⟩
  · simp at h; obtain ⟨_, rfl⟩ := h; exact ⟨Nat.le_refl _, hi⟩
end Go.Proofs.YtmhdcnaibleihaaGreatDoor
