/- The terms' parser: a pick: the walk. -/
import Derived.Test.YtnpaikdaogikcaaGreatDoorG33
import Derived.Test.YtnpaikdaogikcaaGreatDoorG22
import Derived.Test.YtnpaikdaogikcaaGreatDoorG14
import Derived.Test.YtnpaikdaogikcaaGreatDoorG13
import Derived.Test.YtnpaikdaogikcaaGreatDoorG21
import Derived.Test.YtnpaikdaogikcaaGreatDoorG27

namespace Go.Proofs.YtnpaikdaogikcaaGreatDoor
set_option maxRecDepth 100000
open Go.RowKit
set_option linter.unusedVariables false
set_option linter.unusedSimpArgs false

theorem PSt.pm {pb xb ob base i a : Nat} {S : ByteArray} {ws : List Int} {ts : List T} {u v : Value} {ics : List (List Value)} {w w' : World} (h : PSt pb xb ob base S i ws ts u v ics w) (hm : PM 66 pb S a 0 0 w w') (h1 : xb ≠ pb) (h2 : ob ≠ pb) (h3 : pb < base) : PSt pb xb ob base S a ws ts u v ics w' :=
  ⟨hm.at_, h.box.keeps hm.keeps h1, h.out.keeps hm.keeps h2, h.row.keeps hm.keeps fun b hb e => by omega⟩
theorem rdV_noneP (p : Nat → Prop) (w : World) : RdV p w .none [.int .i64 0, .bool false, .int .i64 0, .string ⟨#[]⟩, .slice none 0 0, .slice none 0 0] := by
  simp only [RdV]
  exact ⟨none, 0, none, 0, [], rfl, Nat.le_refl _, Nat.le_refl _, rfl, CellsFrom.nil _ _ _, CellsFrom.nil _ _ _⟩
theorem PSt.rd {pb xb ob base i : Nat} {S : ByteArray} {ws : List Int} {ts : List T} {u v : Value} {ics : List (List Value)} {w : World} (h : PSt pb xb ob base S i ws ts u v ics w) : AT1 (.mk 2 [] .none [] ws ts [] []) (Fr base) w (pickC u v) := by
  have hk := h.row.own
  rw [List.length_map] at hk
  obtain ⟨A, c, rfl⟩ := own_form hk
  obtain ⟨B, d, rfl⟩ := h.row.row.form
  have hc : ws.length ≤ c := by
    rcases hk.2 with ⟨h1, h2⟩ | ⟨g, cap, cur, h1, _, _, h2, _⟩
    · omega
    · injection h1 with _ _ h3; omega
  exact RdT_of (kind := 2) (name := []) (keys := []) (weights := ws) (exprs := []) (isos := []) (K := none) (kc := 0) (X := none) (xc := 0) (Z := none) (zc := 0) (rdV_noneP _ w) (Nat.le_refl _) hc h.row.row.cap (Nat.le_refl _) (Nat.le_refl _) (CellsFrom.nil _ _ _) (cellsFrom_own hk) (h.row.row.reads movesT fun b hb => hb.1) h.row.row.cells .nil (CellsFrom.nil _ _ _) (CellsFrom.nil _ _ _)
theorem GTerm.mono {pb j : Nat} {S : ByteArray} {t : T} {w w1 : World} (hx : Ext w w1) {e : Ending} {w' : World} (h : GTerm pb S j t w1 e w') : GTerm pb S j t w e w' := by
  obtain ⟨⟨⟨cs, e1, hr⟩, hk⟩, hp⟩ := h
  exact ⟨⟨⟨cs, e1, RdT.mono (fun b hb => Nat.le_trans hx.size hb) _ _ hr⟩, (Keeps.of_ext hx).trans hk⟩, hp⟩
set_option maxHeartbeats 2000000 in
theorem pickT (S : ByteArray) (hS : S.size ≤ 100000) (H1 : Pick1H S) (Good : T → Prop) (f : Nat) (hterm : ∀ g, g < f → ∀ i t j, i ≤ S.size → parseT (tl S) g (.term i) = some (some (t, j)) → Good t → TermOK S i t j)
    (i j : Nat) (t : T) (hi : i ≤ S.size) (hp : parseT (tl S) f (.pick [] [] i) = some (some (t, j))) (hg : ∀ x ∈ t.parts, Good x) (pb : Nat) (w : World) (hpa : PA 66 w pb S i 0 0) :
    Calls Tryz.prog 56 #[.pointer (some ⟨pb, 0, none⟩)] w (GTerm pb S j t w) := by
  refine of_post fun R hR => ?_
  have hlt := hpa.lt
  generalize hn : w.heap.size = n at *
  have hx1 := ext_al w (.cells #[.pointer (some ⟨pb, 0, none⟩)] 64)
  generalize hw1 : w.alloc (.cells #[.pointer (some ⟨pb, 0, none⟩)] 64) = w1 at *
  have hs1 : w1.heap.size = n + 1 := by rw [← hw1, World.size_alloc, hn]
  have hb1 : Blk w1 n #[.pointer (some ⟨pb, 0, none⟩)] 64 := by rw [← hw1, ← hn]; exact Blk.new _ _ _
  have hm2 := madeK (S := fun b => b = pb) w1 zero13a 51 (by rintro b rfl; omega)
  have hx2 := ext_al w1 (.cells zero13a 51)
  generalize hw2 : w1.alloc (.cells zero13a 51) = w2 at *
  have hs2 : w2.heap.size = n + 2 := by rw [← hw2, World.size_alloc, hs1]
  have hx3 := ext_al w2 (.cells (pickC (.slice none 0 0) (.slice none 0 0)) 51)
  have hb3 := Blk.new w2 (pickC (.slice none 0 0) (.slice none 0 0)) 51
  generalize hw3 : w2.alloc (.cells (pickC (.slice none 0 0) (.slice none 0 0)) 51) = w3 at *
  have hs3 : w3.heap.size = n + 3 := by rw [← hw3, World.size_alloc, hs2]
  rw [hs2] at hb3
  have HST : Hid (PSt pb n (n + 2) (n + 3) S i [] [] (.slice none 0 0) (.slice none 0 0) [] w3) := Lib.hid
    ⟨hpa.on ((hx1.trans' hx2).trans' hx3), (hb1.on hx2).on hx3, hb3, PRow.nil _ _ _ (by omega)⟩
  have HX13 := Lib.hid (hx2.trans' hx3)
  have HM := Lib.hid (hm2.on hx3)
  have HS1 := Lib.hid hs1
  have HX1 := Lib.hid hx1
  have HLT := Lib.hid hlt
  -- what follows, as often as it does
  have HSOME := Lib.hid (someT 101 #[.pointer (some ⟨n, 0, none⟩), .pointer (some ⟨n + 2, 0, none⟩)] (enters_of Tryz.func101 (by kernel_rfl) rfl) S ⟨#[41]⟩ pb
    (fun k wk => ∃ g ws ts u v ics, g ≤ f ∧ parseT (tl S) g (.pick ws ts k) = some (some (t, j)) ∧ PSt pb n (n + 2) (n + 3) S k ws ts u v ics wk ∧ Keeps (KP pb (n + 2) (n + 3)) w3 wk ∧ ws.length ≤ k ∧ ts.length ≤ k ∧ k ≤ S.size)
    (fun k wk => k = j ∧ ∃ ws ts u v ics, t = .mk 2 [] .none [] ws ts [] [] ∧ PSt pb n (n + 2) (n + 3) S j ws ts u v ics wk ∧ Keeps (KP pb (n + 2) (n + 3)) w3 wk) hS (by decide) (by decide) (by decide) (by
      rintro k wk ⟨g, ws, ts, u, v, ics, hgf, hpk, hst, hkk, hl1, hl2, hk⟩
      refine ⟨hst.pa, hk, ?_⟩
      obtain ⟨g', wt, a, x, e, rfl, hwt, hpx, hnx⟩ := pick_step hpk
      have hak : k ≤ a ∧ a ≤ S.size := weightAt_le hwt hk
      have hlen := parseT_len (tl S) g' (.term a) x e hpx hak.2
      have hgx : Good x := by
        apply hg
        rcases hnx with ⟨_, rfl⟩ | ⟨_, e2, _, hn2⟩
        · simp [T.parts]
        · obtain ⟨ws', ts', rfl⟩ := pick_grows _ _ _ _ _ _ _ hn2
          simp [T.parts]
      refine (H1 pb n (n + 2) (n + 3) k a e wt x ws ts u v ics wk hk (by omega) (by omega) (by omega) (by omega) (by omega) (by omega) (by omega) (by omega) hst hwt (hterm g' (by omega) a x e hak.2 hpx hgx)).mono ?_
      rintro r w' ⟨rfl, hk', u', v', ics', hst'⟩
      refine ⟨rfl, e, hst'.pa, hlen.2, by have := hlen.1; simp only [TG.pos] at this; omega, ?_⟩
      have hpm : ∀ (q : Nat) w'', PM 66 pb S q 0 0 w' w'' → PSt pb n (n + 2) (n + 3) S q (ws ++ [wt]) (ts ++ [x]) u' v' ics' w'' ∧ Keeps (KP pb (n + 2) (n + 3)) w3 w'' := fun q w'' hq =>
        ⟨hst'.pm hq (by omega) (by omega) (by omega), (hkk.trans hk').trans (hq.keeps.mono fun b _ e => .inl e)⟩
      rcases hnx with ⟨hm, ht⟩ | ⟨hm, e2, hc, hn2⟩
      · exact .inl ⟨j, hm, fun w'' hq => ⟨rfl, _, _, u', v', ics', ht, hpm j w'' hq⟩⟩
      · have hge := mark_ge hc
        refine .inr ⟨hm, e2, hc, by simp at hge; omega, mark_le hc hlen.2, fun w'' hq => ⟨g', _, _, u', v', ics', by omega, hn2, (hpm e2 w'' hq).1, (hpm e2 w'' hq).2, ?_, ?_, mark_le hc hlen.2⟩⟩
        · have := hlen.1; simp only [TG.pos] at this; simp at hge ⊢; omega
        · have := hlen.1; simp only [TG.pos] at this; simp at hge ⊢; omega) i w3 ⟨f, [], [], _, _, _, Nat.le_refl _, hp, HST.out, Keeps.refl _ _, Nat.zero_le _, Nat.zero_le _, hi⟩ false (fun h => by cases h))
  have HE := Lib.hid (And.intro hn (And.intro hw1 (And.intro hs1 (And.intro hw2 (And.intro hs2 hw3)))))
  clear hp hterm hg H1 hpa hn hw1 hs1 hw2 hs2 hw3 hs3 hx1 hx2 hx3 hb1 hb3 hm2
  have hcb := HST.out.box.cell 0
  go_enter Tryz.func56, Tryz.ntmps56
  go_upto_region 2 with (refine wpList_store_new _ rfl 51 _ _ rfl rfl _ (pickC (.slice none 0 0) (.slice none 0 0)) _ rfl rfl info13p rfl (fun u hu => List.all_eq_true.1 (show (pickC (.slice none 0 0) (.slice none 0 0)).toList.all Value.oneCell' = true from rfl) u hu) ?_)
  obtain ⟨hn, hw1, hs1, hw2, hs2, hw3⟩ := HE.out
  rw [hw1, hw2, hw3, hn, show n + 1 + 1 = n + 2 from rfl]
  clear hn hw1 hs1 hw2 hs2 hw3
  go_upto_region 3 with (go_at_call 100; refine HSOME.out.mono ?_; rintro e w4 ⟨rfl, k, rfl, ws, ts, u, v, ics, ht, hst, hk⟩; have HS4 := Lib.hid hst; have HK4 := Lib.hid hk; have HT := Lib.hid ht; clear hst hk ht hcb)
  have HA := Lib.hid HS4.out.rd
  have hk1 : Keeps (fun b => b = pb) w1 w4 := ((Keeps.of_ext HX13.out).trans HK4.out).mono fun b hb h => by have := HS1.out; have := HLT.out; unfold KP at h; omega
  have HK1 := Lib.hid hk1
  have HM4 : Hid (MadeK (fun b => b = pb) w1 w4 zero13a 51) := Lib.hid ⟨hk1, HM.out.blk.keeps HK4.out (by have := HS1.out; have := HLT.out; unfold KP; omega), HM.out.old⟩
  have HQ : Hid (∀ b, Fr (n + 3) b → w1.heap.size < b) := Lib.hid fun b hb => by have := HS1.out; have h1 : n + 3 ≤ b := hb; omega
  have HPZ := Lib.hid HS4.out.pa
  rw [← HT.out] at HA
  go_wp2_with (first
    | (refine wpList_load_blk rfl 51 _ rfl (n + 2) _ _ HS4.out.out rfl _ Tryz.underlying51 rfl info13p ?_)
    | (refine wpList_answerK (kT t) rfl 51 _ _ rfl rfl HM4 rfl info13p HA HQ (by rw [HS1.out]; rfl) rfl ?_; intro w9 HG HK))
  exact GivenK.fin HG Tryz.results56 (by rw [HS1.out]; rfl) _ Tryz.underlying51 rfl info13p rfl fun h => hR.out _ _ (GTerm.mono HX1.out ⟨h, Blk.keeps HPZ.out HK.out (by have := HS1.out; have := HLT.out; omega)⟩)
end Go.Proofs.YtnpaikdaogikcaaGreatDoor

/- The terms' parser: all terms that are numbers, or picks of such. -/
namespace Go.Proofs.YtnpaikdaogikcaaGreatDoor
set_option maxRecDepth 100000
open Go.RowKit
set_option linter.unusedVariables false
set_option linter.unusedSimpArgs false

def V.kind : V → Int | .mk k _ _ _ _ _ => k
mutual
/-- Numbers, and picks of such. -/
def GoodT : T → Prop
  | .mk kind _ lit _ weights parts _ _ => (kind = 0 ∧ lit.kind = 2 ∧ parts = []) ∨ (kind = 2 ∧ GoodTs parts ∧ weights.length ≤ 64 ∧ ∀ n ∈ weights, 1 ≤ n ∧ n ≤ 1000)
def GoodTs : List T → Prop
  | [] => True
  | x :: l => GoodT x ∧ GoodTs l
end
theorem GoodTs_mem {l : List T} (h : GoodTs l) : ∀ x ∈ l, GoodT x := by
  induction l with
  | nil => simp
  | cons y l ih =>
    intro x hx
    rcases List.mem_cons.1 hx with rfl | hx
    · exact h.1
    · exact ih h.2 x hx
theorem GoodT.kind02 {t : T} (h : GoodT t) : t.kind = 0 ∨ t.kind = 2 := by cases t; rcases h with ⟨h, _⟩ | ⟨h, _⟩ <;> simp [T.kind, h]
theorem tuple_kind (s : Bs) : ∀ (f i : Nat) (ts : List T) (t : T) (j : Nat), parseT s f (.tuple ts i) = some (some (t, j)) → t.kind = 3
  | 0, _, _, _, _, h => by simp [parseT] at h
  | f + 1, i, ts, t, j, h => by
    rw [parseT] at h
    unfold ER.on at h
    split at h
    · cases h
    · cases h
    · try dsimp only at h
      split at h
      · simp at h; rw [← h.1]; rfl
      · unfold orFail at h
        split at h
        · simp at h
        · exact tuple_kind s f _ _ t j h
theorem record_kind (s : Bs) : ∀ (f i : Nat) (ks : List Bs) (ts : List T) (t : T) (j : Nat), parseT s f (.record ks ts i) = some (some (t, j)) → t.kind = 4
  | 0, _, _, _, _, _, h => by simp [parseT] at h
  | f + 1, i, ks, ts, t, j, h => by
    rw [parseT] at h
    unfold orFail at h
    split at h
    · simp at h
    · try dsimp only at h
      split at h
      · simp at h
      · try dsimp only at h
        unfold ER.on at h
        split at h
        · cases h
        · cases h
        · try dsimp only at h
          split at h
          · simp at h; rw [← h.1]; rfl
          · split at h
            · simp at h
            · exact record_kind s f _ _ _ t j h
theorem bounds_kind {s : Bs} {f i j : Nat} {k : List E → T} {t : T} (h : boundsAt s f i k = some (some (t, j))) : ∃ l, t = k l := by
  unfold boundsAt orFail ER.on at h
  repeat' (first | (cases h; done) | (split at h) | (dsimp only at h; split at h))
  all_goals first | (cases h; done) | (simp at h; exact ⟨_, h.1.symm⟩)
/-- A term that is read, of these kinds. -/
theorem term_cases {s : Bs} {f i j : Nat} {t : T} (h : parseT s (f + 1) (.term i) = some (some (t, j))) (hg : GoodT t) :
    mark s i [91] = none ∧ mark s i [123] = none ∧ (((word s i).1 = kJust ∧ justAt s (word s i).2 = some (t, j)) ∨ ((word s i).1 = kPick ∧ ∃ a, mark s (word s i).2 [40] = some a ∧ parseT s f (.pick [] [] a) = some (some (t, j)))) := by
  have hk := hg.kind02
  rw [parseT] at h
  cases h1 : mark s i [91] with
  | some e =>
    exfalso
    rw [h1] at h
    simp only at h
    split at h
    · simp at h; rw [← h.1] at hk; simp [T.kind] at hk
    · have := tuple_kind _ _ _ _ _ _ h; omega
  | none =>
    rw [h1] at h
    simp only at h
    cases h2 : mark s i [123] with
    | some e =>
      exfalso
      rw [h2] at h
      simp only at h
      split at h
      · simp at h; rw [← h.1] at hk; simp [T.kind] at hk
      · have := record_kind _ _ _ _ _ _ _ h; omega
    | none =>
      rw [h2] at h
      simp only at h
      refine ⟨rfl, rfl, ?_⟩
      split at h
      · cases h
      split at h
      · next hj => exact .inl ⟨hj, by simpa using h⟩
      split at h
      · exfalso
        unfold orFail ER.on at h
        repeat' (first | (cases h; done) | (split at h) | (dsimp only at h; split at h))
        all_goals first | (cases h; done) | (simp at h; rw [← h.1] at hk; simp [T.kind] at hk)
      split at h
      · exfalso
        unfold orFail ER.on at h
        repeat' (first | (cases h; done) | (split at h) | (dsimp only at h; split at h))
        all_goals first | (cases h; done) | (simp at h; rw [← h.1] at hk; simp [T.kind] at hk)
      split at h
      · next hj =>
        unfold orFail at h
        split at h
        · simp at h
        · next a ha => exact .inr ⟨hj, a, ha, h⟩
      exfalso
      split at h
      · unfold orFail ER.on at h
        repeat' (first | (cases h; done) | (split at h) | (dsimp only at h; split at h))
        all_goals first | (cases h; done) | (obtain ⟨l, rfl⟩ := bounds_kind h; simp [T.kind] at hk)
      split at h
      · unfold orFail at h
        repeat' (first | (cases h; done) | (split at h) | (dsimp only at h; split at h))
        all_goals first | (cases h; done) | (obtain ⟨l, rfl⟩ := bounds_kind h; simp [T.kind] at hk)
      split at h
      · unfold orFail ER.on at h
        repeat' (first | (cases h; done) | (split at h) | (dsimp only at h; split at h))
        all_goals first | (cases h; done) | (simp at h; rw [← h.1] at hk; simp [T.kind] at hk)
      split at h
      · unfold orFail ER.on at h
        repeat' (first | (cases h; done) | (split at h) | (dsimp only at h; split at h))
        all_goals first | (cases h; done) | (simp at h; rw [← h.1] at hk; simp [T.kind] at hk)
      simp at h; rw [← h.1] at hk; simp [T.kind] at hk
theorem just_cases {s : Bs} {i j : Nat} {t : T} (h : justAt s i = some (t, j)) (hg : GoodT t) : ∃ n, t = tJust (.ofInt n) ∧ (word s i).1 = [] ∧ atP (fun c => isDig c || c == 45) s (blanks s i) = true ∧ numAt s (blanks s i) true = some (n, j) := by
  unfold justAt at h
  have hl : ∀ v, t = tJust v → v.kind = 2 := by rintro v rfl; rcases hg with ⟨_, h, _⟩ | ⟨h, _⟩; exact h; cases h
  split at h
  · simp at h; have := hl _ h.1.symm; simp [V.kind] at this
  split at h
  · simp at h; have := hl _ h.1.symm; simp [V.kind] at this
  split at h
  · simp at h; have := hl _ h.1.symm; simp [V.kind] at this
  split at h
  · next hd =>
    cases hn : numAt s (blanks s i) true with
    | none => rw [hn] at h; simp at h
    | some p =>
      rw [hn] at h
      simp at h
      refine ⟨p.1, h.1.symm, ?_, ?_, by rw [← h.2]⟩
      · unfold word
        rw [if_neg]
        rcases hd with hd | hd
        · unfold atP; rw [hd]; decide
        · unfold atP at hd ⊢
          cases hc : s[blanks s i]? with
          | none => simp
          | some c =>
            rw [hc] at hd
            have := (dig_iff c).1 hd
            simp only [isLet, Bool.or_eq_true, Bool.and_eq_true, decide_eq_true_eq]; omega
      · rcases hd with hd | hd
        · unfold atP; rw [hd]; decide
        · unfold atP at hd ⊢
          cases hc : s[blanks s i]? with
          | none => rw [hc] at hd; simp at hd
          | some c => rw [hc] at hd; simp only [hd, Bool.true_or]
  · cases hn : textAt s i with
    | none => rw [hn] at h; simp at h
    | some p => rw [hn] at h; simp at h; have := hl _ h.1.symm; simp [V.kind] at this
theorem term_all (S : ByteArray) (hS : S.size ≤ 100000) (H1 : Pick1H S) : ∀ f i t j, i ≤ S.size → parseT (tl S) f (.term i) = some (some (t, j)) → GoodT t → TermOK S i t j := by
  intro f
  induction f using Nat.strongRecOn with
  | ind f ih =>
    intro i t j hi h hg
    cases f with
    | zero => simp [parseT] at h
    | succ f =>
      obtain ⟨h1, h2, ⟨hw, hj⟩ | ⟨hw, a, ha, hp⟩⟩ := term_cases h hg
      · obtain ⟨n, rfl, q1, q2, q3⟩ := just_cases hj hg
        have hle := word_le2 (S := S) (i := i) hi
        exact term_just S i (word (tl S) i).2 j _ hi hS hw h1 h2 rfl fun pb w hp => just_num S _ pb w n j hp hle hS q1 q2 q3
      · have hle := mark_le ha (word_le2 (S := S) (i := i) hi)
        refine term_pick S i a j t hi hS hw h1 h2 ha fun pb w hpa => pickT S hS H1 GoodT f (fun g hgf i t j hi h hg => ih g (by omega) i t j hi h hg) a j t hle hp ?_ pb w hpa
        obtain ⟨ws', ts', rfl⟩ := pick_grows _ _ _ _ _ _ _ hp
        rcases hg with ⟨h, _⟩ | ⟨_, h, _⟩
        · cases h
        · exact GoodTs_mem h
end Go.Proofs.YtnpaikdaogikcaaGreatDoor

/- The terms' parser: the definitions of a good text. -/
namespace Go.Proofs.YtnpaikdaogikcaaGreatDoor
set_option maxRecDepth 100000
open Go.RowKit
set_option linter.unusedVariables false
set_option linter.unusedSimpArgs false

theorem defs_step {s : Bs} {f i e : Nat} {acc L : List D} (h : defsAt s f acc i = some (some (L, e))) : ∃ g, f = g + 1 ∧ ((acc ≠ [] ∧ s.length ≤ blanks s i ∧ L = acc) ∨
    ((acc = [] ∨ blanks s i < s.length) ∧ (word s i).1 ≠ [] ∧ keyword (word s i).1 = false ∧ ∃ a x b e2, mark s (word s i).2 [61] = some a ∧ parseT s g (.term a) = some (some (x, b)) ∧ mark s b [59] = some e2 ∧ defsAt s g (acc ++ [⟨(word s i).1, x⟩]) e2 = some (some (L, e)))) := by
  cases f with
  | zero => simp [defsAt] at h
  | succ g =>
    refine ⟨g, rfl, ?_⟩
    rw [defsAt] at h
    split at h
    · next hc => simp at h; exact .inl ⟨hc.1, hc.2, h.1.symm⟩
    · next hc =>
      split at h
      · simp at h
      · next hw =>
        refine .inr ⟨?_, fun e => hw (.inl e), by simpa using fun e => hw (.inr e), ?_⟩
        · by_cases ha : acc = []
          · exact .inl ha
          · exact .inr (by have : ¬ s.length ≤ blanks s i := fun h => hc ⟨ha, h⟩; omega)
        · unfold orFail at h
          split at h
          · simp at h
          · next a ha =>
            unfold ER.on at h
            try dsimp only at h
            split at h
            · cases h
            · cases h
            · next x b hx =>
              try dsimp only at h
              split at h
              · simp at h
              · next e2 he => exact ⟨a, x, b, e2, ha, hx, he, h⟩
theorem defs_grow (s : Bs) : ∀ (f i e : Nat) (acc L : List D), defsAt s f acc i = some (some (L, e)) → acc <+: L
  | 0, _, _, _, _, h => by simp [defsAt] at h
  | f + 1, i, e, acc, L, h => by
    obtain ⟨g, hg, ⟨_, _, rfl⟩ | ⟨_, _, _, a, x, b, e2, _, _, _, h2⟩⟩ := defs_step h
    · exact List.prefix_refl _
    · cases hg
      exact (List.prefix_append _ _).trans (defs_grow s f e2 e _ L h2)
theorem defsOK_of (S : ByteArray) (hS : S.size ≤ 100000) (H1 : Pick1H S) (L : List D) (hg : ∀ d ∈ L, GoodT d.term) : ∀ (f i e : Nat) (acc : List D), defsAt (tl S) f acc i = some (some (L, e)) → i ≤ S.size → DefsOK S L acc i
  | 0, _, _, _, h, _ => by simp [defsAt] at h
  | f + 1, i, e, acc, h, hi => by
    obtain ⟨g, hgf, ⟨h1, h2, h3⟩ | ⟨hor, hw, hk, a, x, b, e2, hm, hx, hm2, h2⟩⟩ := defs_step h
    · exact .done h1 h2 h3
    · cases hgf
      have hpre := defs_grow _ _ _ _ _ _ h2
      have hgx := hg ⟨(word (tl S) i).1, x⟩ (hpre.subset (by simp))
      have hwle := word_le2 (S := S) (i := i) hi
      have hale := mark_le hm hwle
      have hxl := parseT_len (tl S) f (.term a) x b hx hale
      have h4 := hxl.1
      simp only [TG.pos] at h4
      exact .more hor hw hk hm (term_all S hS H1 f a x b hale hx hgx) (by omega) hxl.2 hm2 (defsOK_of S hS H1 L hg f e2 e _ h2 (mark_le hm2 hxl.2))
theorem parse_read (S : ByteArray) (hS : S.size ≤ 8192) (H1 : Pick1H S) (L : List D) (f : Nat) (hp : parseD (tl S) f = some (some L)) (hg : ∀ d ∈ L, GoodT d.term ∧ d.name.length ≤ 1000 ∧ d.term.size ≤ 1000000) (w : World) :
    Calls Tryz.prog 9 #[.string S] w fun e w' => (∃ A c, e = .returned (.tuple #[.slice A L.length c, .int .i64 0, .int .i64 0]) ∧ GRow L w A c w') ∧ Ext w w' := by
  have hp1 : (∃ e, defsAt (tl S) f [] 0 = some (some (L, e))) ∧ ∀ d ∈ L, d.term.depth ≤ 32 := by
    unfold parseD at hp
    rw [if_neg (by rw [tl_len]; omega)] at hp
    cases hd : defsAt (tl S) f [] 0 with
    | none => rw [hd] at hp; simp at hp
    | some r => cases r with
      | none => rw [hd] at hp; simp at hp
      | some q =>
        obtain ⟨l, e⟩ := q
        rw [hd] at hp
        simp only [Option.some.injEq] at hp
        split at hp
        · cases hp
        · next hn =>
          cases hp
          refine ⟨⟨e, rfl⟩, fun d hd => ?_⟩
          simp only [List.any_eq_true, decide_eq_true_eq, not_exists, not_and] at hn
          have := hn d hd; omega
  obtain ⟨⟨e0, hd0⟩, hdep⟩ := hp1
  exact parse_readG S hS L (defsOK_of S (by omega) H1 L (fun d hd => (hg d hd).1) f 0 e0 [] hd0 (Nat.zero_le _)) hdep (fun d hd => (hg d hd).2) w
end Go.Proofs.YtnpaikdaogikcaaGreatDoor
