/- A term that follows is read: what is said of it. -/
import Derived.Test.YtnpaikdaogikcaaGreatDoorG08
import Derived.Test.YtnpaikdaogikcaaGreatDoorG04
import Derived.Maps.Own
import Derived.StringKeys
import Derived.Deep.CutBlock
import Derived.Deep.DeepCutAuto

namespace Go.Proofs.YtnpaikdaogikcaaGreatDoor
open Go.RowKit

/-- A term that follows is read. -/
def TermOK (S : ByteArray) (i : Nat) (t : T) (j : Nat) : Prop := ∀ (pb : Nat) (w : World), PA 66 w pb S i 0 0 → Calls Tryz.prog 30 #[.pointer (some ⟨pb, 0, none⟩)] w (GTerm pb S j t w)
end Go.Proofs.YtnpaikdaogikcaaGreatDoor

/- Maps whose keys are strings: entry by entry. -/
namespace Go.Proofs.YtnpaikdaogikcaaGreatDoor
set_option maxRecDepth 100000
open Go.RowKit Go.ChangeMaps Go.WideMaps
set_option linter.unusedVariables false
set_option linter.unusedSimpArgs false

def entriesFrom (n : Nat) : List (Bs × Value) → List MapEntry
  | [] => []
  | (k, v) :: l => ⟨sv k, v, n⟩ :: entriesFrom (n + 1) l
def assocB (l : List (Bs × Value)) (s : Bs) : Option Value := match l with
  | [] => none
  | (k, v) :: r => if k = s then some v else assocB r s
/-- The map of block b holds these entries. -/
structure MapB (w : World) (b : Nat) (l : List (Bs × Value)) : Prop where
  blk : w.heap[b]? = some (.map (entriesFrom 0 l).toArray l.length)
  short : ∀ p ∈ l, p.1.length ≤ 1000000
theorem entries_append (n : Nat) (l m : List (Bs × Value)) : entriesFrom n (l ++ m) = entriesFrom n l ++ entriesFrom (n + l.length) m := by
  induction l generalizing n with
  | nil => simp [entriesFrom]
  | cons p l ih => simp only [List.cons_append, entriesFrom, ih, List.length_cons]; congr 3; omega
theorem entries_keys {P : Program} {k : TypeId} (hk : P.underlying k = some .string) (n : Nat) {l : List (Bs × Value)} (h : ∀ p ∈ l, p.1.length ≤ 1000000) : ∀ e ∈ entriesFrom n l, ∃ x, keyOf P k e.key = some x := by
  induction l generalizing n with
  | nil => simp [entriesFrom]
  | cons p l ih =>
    intro e he
    simp only [entriesFrom, List.mem_cons] at he
    rcases he with rfl | he
    · have := h p (by simp)
      exact ⟨_, keyOf_string_mk hk (s := ⟨p.1.toArray⟩) (by show p.1.toArray.size ≤ maxLen; simp only [List.size_toArray]; unfold maxLen; omega)⟩
    · exact ih (n + 1) (fun q hq => h q (by simp [hq])) e he
theorem sv_inj {a b : Bs} (h : sv a = sv b) : a = b := by
  injection h with h; injection h with h
  have := congrArg Array.toList h; simpa using this
theorem assoc_none {l : List (Bs × Value)} {s : Bs} (n : Nat) (h : ∀ e ∈ entriesFrom n l, e.key ≠ sv s) : assocB l s = none := by
  induction l generalizing n with
  | nil => rfl
  | cons p l ih =>
    simp only [entriesFrom, List.mem_cons] at h
    have h1 := h _ (.inl rfl)
    unfold assocB
    rw [if_neg (fun e => h1 (by rw [e])), ih (n + 1) fun e he => h e (.inr he)]
theorem find_run {P : Program} {k : TypeId} (hk : P.underlying k = some .string) (w : World) {l : List (Bs × Value)} (h : ∀ p ∈ l, p.1.length ≤ 1000000) (s : Bs) (hs : s.length ≤ 1000000) (n : Nat) (hd : (l.map (·.1)).Nodup) :
    (assocB l s = none ∧ (Instr.findKey k (sv s) (entriesFrom n l)).run P w = .ok none w) ∨ ∃ v j, assocB l s = some v ∧ (Instr.findKey k (sv s) (entriesFrom n l)).run P w = .ok (some (j, v)) w := by
  have hkey := keyOf_string_mk hk (s := ⟨s.toArray⟩) (by show s.toArray.size ≤ maxLen; simp only [List.size_toArray]; unfold maxLen; omega)
  rcases (Maps.string_keyed hk).find w hkey _ (entries_keys hk n h) with ⟨h1, h2⟩ | ⟨j, e, h1, h2, h3⟩
  · exact .inl ⟨assoc_none n h2, h1⟩
  · refine .inr ⟨e.val, j, ?_, h1⟩
    have hm := List.mem_of_getElem? h2
    clear h1 h2
    induction l generalizing n with
    | nil => simp [entriesFrom] at hm
    | cons p l ih =>
      simp only [entriesFrom, List.mem_cons] at hm
      rw [List.map_cons, List.nodup_cons] at hd
      rcases hm with rfl | hm
      · unfold assocB; rw [if_pos (sv_inj h3)]
      · have hne : p.1 ≠ s := by
          rintro rfl
          apply hd.1
          clear ih hd h hkey hs
          induction l generalizing n with
          | nil => simp [entriesFrom] at hm
          | cons q l ih =>
            simp only [entriesFrom, List.mem_cons] at hm
            rcases hm with rfl | hm
            · rw [List.map_cons]; exact List.mem_cons.2 (.inl (sv_inj h3).symm)
            · rw [List.map_cons]; exact List.mem_cons.2 (.inr (ih (n + 1) hm))
        unfold assocB; rw [if_neg hne]
        exact ih (fun q hq => h q (by simp [hq])) (n + 1) hd.2 hm
section
variable {P : Program} {k et t : TypeId} {w w' : World} {b : Nat} {l : List (Bs × Value)}
theorem MapB.lt (h : MapB w b l) : b < w.heap.size := (Array.getElem?_eq_some_iff.1 h.blk).1
theorem MapB.keeps {S : Nat → Prop} (h : MapB w b l) (hx : Keeps S w w') (hs : ¬ S b) : MapB w' b l := ⟨(hx.block b h.lt hs).trans h.blk, h.short⟩
theorem MapB.on (h : MapB w b l) (hx : Ext w w') : MapB w' b l := ⟨(hx.block b h.lt).trans h.blk, h.short⟩
theorem MapB.new (w : World) : MapB (w.alloc (.map #[] 0)) w.heap.size [] := ⟨heap_alloc_new w _, by simp⟩
theorem MapB.look (h : MapB w b l) (hd : (l.map (·.1)).Nodup) (ht : P.underlying t = some (.map k et)) (hk : P.underlying k = some .string) {z : Value} (hz : (zeroValue et).run P w = .ok z w) (s : Bs) (hs : s.length ≤ 1000000) (c : Bool) :
    (Instr.lookup t (.map (some b)) (sv s) c).run P w = .ok (if c then .tuple #[(assocB l s).getD z, .bool (assocB l s).isSome] else (assocB l s).getD z) w := by
  have hkey := keyOf_string_mk hk (s := ⟨s.toArray⟩) (by show s.toArray.size ≤ maxLen; simp only [List.size_toArray]; unfold maxLen; omega)
  have hg := MapKept.run_getObj_map (P := P) h.blk
  have hch := fun em => (Maps.string_keyed hk).check w em hkey
  rcases find_run hk w h.short s hs 0 hd with ⟨h1, h2⟩ | ⟨v, j, h1, h2⟩
  · rw [h1]
    simp [Instr.lookup, run_underlying ht, hg, hch, h2, hz, Result.andThen]
  · rw [h1]
    simp [Instr.lookup, run_underlying ht, hg, hch, h2, Result.andThen]
theorem MapB.put (h : MapB w b l) (hd : (l.map (·.1)).Nodup) (ht : P.underlying t = some (.map k et)) (hk : P.underlying k = some .string) (s : Bs) (hs : s.length ≤ 1000000) (v : Value) (hn : assocB l s = none) :
    ∃ w', (Instr.mapUpdate t (.map (some b)) (sv s) v).run P w = .ok () w' ∧ MapB w' b (l ++ [(s, v)]) ∧ Keeps (fun x => x = b) w w' := by
  have hkey := keyOf_string_mk hk (s := ⟨s.toArray⟩) (by show s.toArray.size ≤ maxLen; simp only [List.size_toArray]; unfold maxLen; omega)
  have hg := MapKept.run_getObj_map (P := P) h.blk
  have hch := fun em => (Maps.string_keyed hk).check w em hkey
  rcases find_run hk w h.short s hs 0 hd with ⟨h1, h2⟩ | ⟨v', j, h1, h2⟩
  · refine ⟨setBlock w b (.map ((entriesFrom 0 l).toArray.push ⟨sv s, v, l.length⟩) (l.length + 1)), ?_, ⟨?_, ?_⟩, rfl, rfl, rfl, ?_, ?_⟩
    · simp [Instr.mapUpdate, run_underlying ht, hg, hch, h2, MapKept.run_setObj_map _ h.blk, Result.andThen, setBlock]
    · have hlt := h.lt
      show (w.heap.setIfInBounds b _)[b]? = _
      rw [Array.getElem?_setIfInBounds_self_of_lt hlt, entries_append]
      simp [entriesFrom]
    · intro p hp
      simp only [List.mem_append, List.mem_singleton] at hp
      rcases hp with hp | rfl
      · exact h.short p hp
      · exact hs
    · show w.heap.size ≤ (w.heap.setIfInBounds b _).size; simp
    · intro i hi hne
      show (w.heap.setIfInBounds b _)[i]? = _
      rw [Array.getElem?_setIfInBounds_ne (fun e => hne e.symm)]
  · rw [h1] at hn; cases hn
variable {ops : Array Oper} {rest : List Oper} {o : Oper} {a : Act} {Q : Exit → Act → World → Prop}
theorem wpList_makeMap (hg : o.guard = none) (hop : o.op = .makeMap t none) (h : ∀ w', Hid (MapB w' w.heap.size []) → Hid (Ext w w') → wpList P ops Q rest (a.put o.dst (.map (some w.heap.size))) w') : wpList P ops Q (o :: rest) a w :=
  wpList_plain hg fun K hK => by
    unfold Oper.wp
    simp only [execOp, hop, Sem.run_bind, run_makeMap, Result.andThen_ok]
    exact hK _ _ (h _ (Lib.hid (MapB.new w)) (Lib.hid ((Ext.refl' w).alloc' _)))
theorem wpList_insert (hg : o.guard = none) (m x v : Operand) (hop : o.op = .insert t m x v) (ht : P.underlying t = some (.map k et)) (hk : P.underlying k = some .string) (hm : Hid (MapB w b l)) (hd : (l.map (·.1)).Nodup)
    (s : Bs) (hs : s.length ≤ 1000000) (val : Value) (h0 : a.eval m = .map (some b)) (h1 : a.eval x = sv s) (h2 : a.eval v = val) (hn : assocB l s = none)
    (h : ∀ w', Hid (MapB w' b (l ++ [(s, val)])) → Hid (Keeps (fun x => x = b) w w') → wpList P ops Q rest (a.put o.dst undef) w') : wpList P ops Q (o :: rest) a w :=
  wpList_plain hg fun K hK => by
    obtain ⟨w', hrun, r1, r2⟩ := hm.out.put hd ht hk s hs val hn
    unfold Oper.wp
    simp only [execOp, hop, h0, h1, h2, Sem.run_bind, hrun, Result.andThen_ok]
    exact hK _ _ (h w' (Lib.hid r1) (Lib.hid r2))
theorem wpList_mapSet (hg : o.guard = none) (m x v : Operand) (hop : o.op = .mapUpdate t m x v) (ht : P.underlying t = some (.map k et)) (hk : P.underlying k = some .string) (hm : Hid (MapB w b l)) (hd : (l.map (·.1)).Nodup)
    (s : Bs) (hs : s.length ≤ 1000000) (val : Value) (h0 : a.eval m = .map (some b)) (h1 : a.eval x = sv s) (h2 : a.eval v = val) (hn : assocB l s = none)
    (h : ∀ w', Hid (MapB w' b (l ++ [(s, val)])) → Hid (Keeps (fun x => x = b) w w') → wpList P ops Q rest (a.put o.dst undef) w') : wpList P ops Q (o :: rest) a w :=
  wpList_plain hg fun K hK => by
    obtain ⟨w', hrun, r1, r2⟩ := hm.out.put hd ht hk s hs val hn
    unfold Oper.wp
    simp only [execOp, hop, h0, h1, h2, Sem.run_bind, hrun, Result.andThen_ok]
    exact hK _ _ (h w' (Lib.hid r1) (Lib.hid r2))
theorem wpList_look (hg : o.guard = none) (m x : Operand) (c : Bool) (hop : o.op = .lookup t m x c) (ht : P.underlying t = some (.map k et)) (hk : P.underlying k = some .string) (hm : Hid (MapB w b l)) (hd : (l.map (·.1)).Nodup)
    {z : Value} (hz : (zeroValue et).run P w = .ok z w) (s : Bs) (hs : s.length ≤ 1000000) (h0 : a.eval m = .map (some b)) (h1 : a.eval x = sv s) (r : Option Value) (hr : assocB l s = r)
    (h : wpList P ops Q rest (a.put o.dst (if c then .tuple #[r.getD z, .bool r.isSome] else r.getD z)) w) : wpList P ops Q (o :: rest) a w :=
  wpList_plain hg fun K hK => by
    have hrun := hm.out.look hd ht hk hz s hs c
    rw [hr] at hrun
    unfold Oper.wp
    simp only [execOp, hop, h0, h1, Sem.run_bind, hrun, Result.andThen_ok]
    exact hK _ _ h
theorem wpList_insertS (hg : o.guard = none) (hd0 : o.dst = none) (m x v : Operand) (hop : o.op = .insert t m x v) (ht : P.underlying t = some (.map k et)) (hk : P.underlying k = some .string) (hm : Hid (MapB w b l)) (hd : (l.map (·.1)).Nodup)
    (S : ByteArray) (hs : (tl S).length ≤ 1000000) (val : Value) (h0 : a.eval m = .map (some b)) (h1 : a.eval x = .string S) (h2 : a.eval v = val) (hn : assocB l (tl S) = none)
    (h : ∀ w', Hid (MapB w' b (l ++ [(tl S, val)])) → Hid (Keeps (fun x => x = b) w w') → wpList P ops Q rest a w') : wpList P ops Q (o :: rest) a w :=
  wpList_plain hg fun K hK => by
    obtain ⟨w', hrun, r1, r2⟩ := hm.out.put hd ht hk (tl S) hs val hn
    have h1' : a.eval x = sv (tl S) := h1
    unfold Oper.wp
    simp only [execOp, hop, h0, h1', h2, Sem.run_bind, hrun, Result.andThen_ok]
    have := hK _ _ (h w' (Lib.hid r1) (Lib.hid r2))
    simpa [hd0, Act.put, Oper.upon] using this
end
end Go.Proofs.YtnpaikdaogikcaaGreatDoor

/- The terms' parser: the term that follows, at a keyword. -/
namespace Go.Proofs.YtnpaikdaogikcaaGreatDoor
set_option maxRecDepth 100000
open Go.RowKit
set_option linter.unusedVariables false
set_option linter.unusedSimpArgs false

theorem fr_ltK {S : Nat → Prop} {w0 w : World} {z : Array Value} {t : TypeId} (h : Hid (MadeK S w0 w z t)) : Hid (∀ b, Fr w.heap.size b → w0.heap.size < b) := Lib.hid fun b hb => by
  have h1 := h.out.lt; have h2 : w.heap.size ≤ b := hb; omega
theorem zeroRead (w : World) : (zeroValue 122).run Tryz.prog w = .ok .nilFunc w := by kernel_rfl
theorem PA.set' {t : TypeId} {w : World} {pb i : Nat} {S : ByteArray} {pl c : Int} (h : PA t w pb S i pl c) {x : Int} {j : Nat} (hx : x = j) : PA t (w.setCell ⟨pb, 1, none⟩ (.int .i64 x)) pb S j pl c := by subst hx; exact h.set j
theorem word_le2 {S : ByteArray} {i : Nat} (hi : i ≤ S.size) : (word (tl S) i).2 ≤ S.size := word_le (tl S) i hi
theorem word_sp {s : Bs} {i : Nat} (h : (word s i).1 ≠ []) : (word s i).2 = blanks s i + (word s i).1.length := by
  unfold word at h ⊢
  split
  · next hc => rw [if_pos hc] at h; have h2 := cut_len s (blanks s i) _ (spanW_le isGo s _ (Nat.le_of_lt (atP_lt hc))); have := spanW_ge isGo s (blanks s i); show spanW isGo s (blanks s i) = _ + (cut s (blanks s i) (spanW isGo s (blanks s i))).length; omega
  · next hc => rw [if_neg hc] at h; exact absurd rfl h
set_option maxHeartbeats 4000000 in
theorem term_just (S : ByteArray) (i a j : Nat) (t : T) (hi : i ≤ S.size) (hS : S.size ≤ 100000) (hw : (word (tl S) i).1 = [106, 117, 115, 116]) (h1 : mark (tl S) i [91] = none) (h2 : mark (tl S) i [123] = none)
    (ha : a = (word (tl S) i).2)
    (hsub : ∀ (pb : Nat) (w : World), PA 66 w pb S a 0 0 → Calls Tryz.prog 53 #[.pointer (some ⟨pb, 0, none⟩)] w (GTerm pb S j t w)) : TermOK S i t j := by
  intro pb w hp
  refine of_post fun R hR => ?_
  have hlt := hp.lt
  have HM := Lib.hid (madeK (S := fun b => b = pb) w zero13a 51 (by rintro b rfl; exact hlt))
  have HPA := Lib.hid (hp.on (ext_al w (.cells zero13a 51)))
  have HW := Lib.hid hw
  have HLT := Lib.hid hlt
  have HSP : Hid ((word (tl S) i).2 = blanks (tl S) i + 4) := Lib.hid (by have := word_sp (s := tl S) (i := i) (by rw [hw]; simp); rw [hw] at this; exact this)
  have hb := blanks_le' S hi
  have g1 : (blanks (tl S) i : Int) ≤ 100000 := by omega
  have HSU := Lib.hid hsub
  have HEN : Enters Tryz.prog 53 := enters_of Tryz.func53 (by kernel_rfl) rfl
  unfold Enters at HEN
  have HWC := fun w h => Lib.hid (wordT S i pb 0 0 w h hi hS)
  rw [hw] at HWC
  have HMA := fun w h => Lib.hid (markT_no S ⟨#[91]⟩ i pb 0 0 w h hi hS (.inr h1))
  have HMB1 := fun w h => Lib.hid (markT_no S ⟨#[123]⟩ i pb 0 0 w h hi hS (.inr h2))
  have HAC := fun w h => Lib.hid (aheadT S i pb 0 0 w h hi hS)
  have HAE : Hid (a = blanks (tl S) i + 4) := Lib.hid (ha.trans HSP.out)
  clear ha
  clear hp hw hsub h1 h2 hlt
  generalize blanks (tl S) i = b at *
  go_enter Tryz.func30, Tryz.ntmps30
  go_upto_region 2 with (go_at_call 26; refine (HWC _ HPA.out).out.mono ?_; rintro e wA ⟨rfl, hw⟩; obtain rfl := hw)
  obtain ⟨wA, hwA⟩ : ∃ wA, w.alloc (.cells zero13a 51) = wA := ⟨_, rfl⟩
  rw [show w.alloc (.cells zero13a 51) = wA from hwA] at HM HPA ⊢
  clear hwA
  go_upto_region 3 with (first
    | (refine wpList_makeMap rfl rfl ?_; intro wm HMB HXM)
    | (refine wpList_insertS rfl rfl _ _ _ rfl Tryz.underlying123 Tryz.underlying9 HMB (by simp [tl]) _ (by decide) _ rfl rfl rfl (by rfl) ?_; intro wm HMB0 HKM; replace HMB := HMB0; replace HXM := Lib.hid (Keeps.below HXM.out HKM.out fun k hk e => by omega); clear HMB0 HKM)
    | (refine wpList_look rfl _ _ false rfl Tryz.underlying123 Tryz.underlying9 HMB (by simp [tl]) (zeroRead _) [106, 117, 115, 116] (by decide) rfl rfl (some (.func (.func 53) #[] #[])) (by rfl) ?_))
  replace HPA := Lib.hid (HPA.out.on HXM.out)
  replace HM := Lib.hid (HM.out.on HXM.out)
  have hc := HPA.out.cell
  have hfz := HPA.out.frozen
  clear HMB HXM
  have HjustIL : ∀ W : World, (binOp .eql 122 (.func (.func 53) #[] #[]) .nilFunc).run Tryz.prog W = .ok (.bool false) W := fun W => by kernel_rfl
  go_upto_region 13 with (first
    | (go_at_call 52; first | ((with_reducible refine (HMA _ HPA.out).out.mono ?_); rintro e wm ⟨rfl, hw⟩; obtain rfl := hw) | ((with_reducible refine (HMB1 _ HPA.out).out.mono ?_); rintro e wm ⟨rfl, hw⟩; obtain rfl := hw))
    | (go_at_call 14; refine (HAC _ HPA.out).out.mono ?_; rintro e wm ⟨rfl, hw⟩; obtain rfl := hw))
  replace HM := Lib.hid (HM.out.keep (Keeps.set wm ⟨pb, 1, none⟩ (.int .i64 ((b : Int) + 4))))
  replace HPA := Lib.hid (PA.set' HPA.out (x := (b : Int) + 4) (j := b + 4) (by omega))
  obtain ⟨wS, hwS⟩ : ∃ wS, wm.setCell ⟨pb, 1, none⟩ (.int .i64 ((b : Int) + 4)) = wS := ⟨_, rfl⟩
  rw [hwS] at HPA HM ⊢
  clear hwS hc hfz
  go_wp2_with (first
    | (go_at_call 53; refine (HSU.out pb _ (HAE.out ▸ HPA.out)).mono ?_; rintro e w5 ⟨⟨⟨cs, rfl, hr⟩, hk⟩, hpa⟩; have HA := Lib.hid hr; have HQ := fr_ltK HM; replace HM := Lib.hid (HM.out.keep hk); have HPZ := Lib.hid hpa)
    | (refine wpList_answerK (kT t) rfl 51 _ _ rfl rfl HM rfl info13p HA HQ rfl rfl ?_; intro w9 HG HK))
  exact GivenK.fin HG Tryz.results30 rfl _ Tryz.underlying51 rfl info13p rfl fun h => hR.out _ _ ⟨h, Blk.keeps HPZ.out HK.out (by have := HLT.out; omega)⟩
set_option maxHeartbeats 4000000 in
theorem term_pick (S : ByteArray) (i a j : Nat) (t : T) (hi : i ≤ S.size) (hS : S.size ≤ 100000) (hw : (word (tl S) i).1 = [112, 105, 99, 107]) (h1 : mark (tl S) i [91] = none) (h2 : mark (tl S) i [123] = none)
    (ha : mark (tl S) (word (tl S) i).2 [40] = some a)
    (hsub : ∀ (pb : Nat) (w : World), PA 66 w pb S a 0 0 → Calls Tryz.prog 56 #[.pointer (some ⟨pb, 0, none⟩)] w (GTerm pb S j t w)) : TermOK S i t j := by
  intro pb w hp
  refine of_post fun R hR => ?_
  have hlt := hp.lt
  have HM := Lib.hid (madeK (S := fun b => b = pb) w zero13a 51 (by rintro b rfl; exact hlt))
  have HPA := Lib.hid (hp.on (ext_al w (.cells zero13a 51)))
  have HW := Lib.hid hw
  have HLT := Lib.hid hlt
  have HSP : Hid ((word (tl S) i).2 = blanks (tl S) i + 4) := Lib.hid (by have := word_sp (s := tl S) (i := i) (by rw [hw]; simp); rw [hw] at this; exact this)
  have hb := blanks_le' S hi
  have g1 : (blanks (tl S) i : Int) ≤ 100000 := by omega
  have HSU := Lib.hid hsub
  have HEN : Enters Tryz.prog 56 := enters_of Tryz.func56 (by kernel_rfl) rfl
  unfold Enters at HEN
  have HWC := fun w h => Lib.hid (wordT S i pb 0 0 w h hi hS)
  rw [hw] at HWC
  have HMA := fun w h => Lib.hid (markT_no S ⟨#[91]⟩ i pb 0 0 w h hi hS (.inr h1))
  have HMB1 := fun w h => Lib.hid (markT_no S ⟨#[123]⟩ i pb 0 0 w h hi hS (.inr h2))
  have HAC := fun w h => Lib.hid (aheadT S i pb 0 0 w h hi hS)
  have hle := word_le2 (S := S) (i := i) hi
  rw [HSP.out] at ha hle
  have HND := fun w h => Lib.hid (needT S ⟨#[40]⟩ (blanks (tl S) i + 4) a pb 0 w h hle hS (by decide) (by decide) ha (.inl (by decide)))
  clear ha hle
  clear hp hw hsub h1 h2 hlt
  generalize blanks (tl S) i = b at *
  go_enter Tryz.func30, Tryz.ntmps30
  go_upto_region 2 with (go_at_call 26; refine (HWC _ HPA.out).out.mono ?_; rintro e wA ⟨rfl, hw⟩; obtain rfl := hw)
  obtain ⟨wA, hwA⟩ : ∃ wA, w.alloc (.cells zero13a 51) = wA := ⟨_, rfl⟩
  rw [show w.alloc (.cells zero13a 51) = wA from hwA] at HM HPA ⊢
  clear hwA
  go_upto_region 3 with (first
    | (refine wpList_makeMap rfl rfl ?_; intro wm HMB HXM)
    | (refine wpList_insertS rfl rfl _ _ _ rfl Tryz.underlying123 Tryz.underlying9 HMB (by simp [tl]) _ (by decide) _ rfl rfl rfl (by rfl) ?_; intro wm HMB0 HKM; replace HMB := HMB0; replace HXM := Lib.hid (Keeps.below HXM.out HKM.out fun k hk e => by omega); clear HMB0 HKM)
    | (refine wpList_look rfl _ _ false rfl Tryz.underlying123 Tryz.underlying9 HMB (by simp [tl]) (zeroRead _) [112, 105, 99, 107] (by decide) rfl rfl (some (.func (.func 56) #[] #[])) (by rfl) ?_))
  replace HPA := Lib.hid (HPA.out.on HXM.out)
  replace HM := Lib.hid (HM.out.on HXM.out)
  have hc := HPA.out.cell
  have hfz := HPA.out.frozen
  clear HMB HXM
  have HpickIL : ∀ W : World, (binOp .eql 122 (.func (.func 56) #[] #[]) .nilFunc).run Tryz.prog W = .ok (.bool false) W := fun W => by kernel_rfl
  go_upto_region 13 with (first
    | (go_at_call 52; first | ((with_reducible refine (HMA _ HPA.out).out.mono ?_); rintro e wm ⟨rfl, hw⟩; obtain rfl := hw) | ((with_reducible refine (HMB1 _ HPA.out).out.mono ?_); rintro e wm ⟨rfl, hw⟩; obtain rfl := hw))
    | (go_at_call 14; refine (HAC _ HPA.out).out.mono ?_; rintro e wm ⟨rfl, hw⟩; obtain rfl := hw))
  replace HM := Lib.hid (HM.out.keep (Keeps.set wm ⟨pb, 1, none⟩ (.int .i64 ((b : Int) + 4))))
  replace HPA := Lib.hid (PA.set' HPA.out (x := (b : Int) + 4) (j := b + 4) (by omega))
  obtain ⟨wS, hwS⟩ : ∃ wS, wm.setCell ⟨pb, 1, none⟩ (.int .i64 ((b : Int) + 4)) = wS := ⟨_, rfl⟩
  rw [hwS] at HPA HM ⊢
  clear hwS hc hfz
  go_wp2_with (first
    | (go_at_call 29; refine (HND _ HPA.out).out.mono ?_; rintro e wN ⟨rfl, hm⟩; replace HPA := Lib.hid hm.at_; replace HM := Lib.hid (HM.out.keep hm.keeps); clear hm)
    | (go_at_call 56; refine (HSU.out pb _ HPA.out).mono ?_; rintro e w5 ⟨⟨⟨cs, rfl, hr⟩, hk⟩, hpa⟩; have HA := Lib.hid hr; have HQ := fr_ltK HM; replace HM := Lib.hid (HM.out.keep hk); have HPZ := Lib.hid hpa)
    | (refine wpList_answerK (kT t) rfl 51 _ _ rfl rfl HM rfl info13p HA HQ rfl rfl ?_; intro w9 HG HK))
  exact GivenK.fin HG Tryz.results30 rfl _ Tryz.underlying51 rfl info13p rfl fun h => hR.out _ _ ⟨h, Blk.keeps HPZ.out HK.out (by have := HLT.out; omega)⟩
end Go.Proofs.YtnpaikdaogikcaaGreatDoor
