/- The terms' parser: a definition. -/
import Derived.Test.YtnpaikdaogikcaaGreatDoorG26
import Derived.Test.YtnpaikdaogikcaaGreatDoorG21
import Derived.Test.YtnpaikdaogikcaaGreatDoorG09
import Derived.Test.YtnpaikdaogikcaaGreatDoorG24
import Derived.Test.YtnpaikdaogikcaaGreatDoorG22

namespace Go.Proofs.YtnpaikdaogikcaaGreatDoor
set_option maxRecDepth 100000
open Go.RowKit
set_option linter.unusedVariables false
set_option linter.unusedSimpArgs false

/-- How a definition lies in memory. -/
def RdD (p : Nat → Prop) (w : World) (d : D) (cs : List Value) : Prop := ∃ ts, cs = sv d.name :: ts ∧ RdT p w d.term ts
theorem RdD.one {p : Nat → Prop} {w : World} {d : D} {cs : List Value} (h : RdD p w d cs) : ∀ u ∈ cs, u.oneCell' = true := by
  obtain ⟨ts, rfl, h⟩ := h
  intro u hu; rcases List.mem_cons.1 hu with rfl | hu
  · rfl
  · exact h.one u hu
theorem RdD.len {p : Nat → Prop} {w : World} {d : D} {cs : List Value} (h : RdD p w d cs) : cs.length = 14 := by obtain ⟨ts, rfl, h⟩ := h; simp [h.len]
theorem movesD : Moves RdD := ⟨fun _ _ _ _ _ _ hx r => let ⟨ts, e, h⟩ := r; ⟨ts, e, RdT.move hx _ _ h⟩⟩
abbrev AD (d : D) (p : Nat → Prop) (w : World) (cs : Array Value) : Prop := RdD p w d cs.toList
theorem kD (d : D) : Kind 14 (AD d) := ⟨fun h => by have := h.len; simpa using this, fun h => h.one, fun hx h => movesD.mv _ _ _ _ _ _ hx h⟩
theorem info14p : (Tryz.prog.info? 69).map (·.size) = some 14 := by kernel_rfl
abbrev zero14a : Array Value := #[.string ⟨#[]⟩, .int .i64 0, .string ⟨#[]⟩, .int .i64 0, .bool false, .int .i64 0, .string ⟨#[]⟩, .slice none 0 0, .slice none 0 0, .slice none 0 0, .slice none 0 0, .slice none 0 0, .slice none 0 0, .slice none 0 0]
def GDef (pb : Nat) (S : ByteArray) (j : Nat) (d : D) (w : World) (e : Ending) (w' : World) : Prop := GivesK (fun b => b = pb) (AD d) w e w' ∧ PA 66 w' pb S j 0 0
theorem sv_nil_ne {W : Bs} (h : W ≠ []) : ((⟨W.toArray⟩ : ByteArray).toList == (⟨#[]⟩ : ByteArray).toList) = false := by
  rw [beq_tl]; exact decide_eq_false (by simpa using h)
theorem fr_pb {t : TypeId} {w : World} {pb i : Nat} {S : ByteArray} {pl c : Int} (h : Hid (PA t w pb S i pl c)) : Hid (∀ q, Fr w.heap.size q → ¬ q = pb) := Lib.hid fun q hq e => by
  have h1 : w.heap.size ≤ q := hq; have := h.out.lt; omega
theorem mark_word {s : Bs} {i : Nat} (h : (word s i).1 ≠ []) : mark s i (word s i).1 = some (word s i).2 := by
  rw [word_sp h]
  have hp : (word s i).1.isPrefixOf (s.drop (blanks s i)) = true := by
    unfold word at h ⊢
    split
    · rw [List.isPrefixOf_iff_prefix]; unfold cut; exact List.take_prefix _ _
    · next hc => rw [if_neg hc] at h; exact absurd rfl h
  unfold mark
  rw [if_pos hp]
theorem RdD_of {p : Nat → Prop} {w : World} {nm : Bs} {t : T} {cs : Array Value} (h : RdT p w t cs.toList) : AD ⟨nm, t⟩ p w (#[sv nm] ++ cs) := ⟨cs.toList, by simp, h⟩
set_option maxHeartbeats 2000000 in
theorem defT (S : ByteArray) (i a b j pb : Nat) (t : T) (w : World) (hp : PA 66 w pb S i 0 0) (hi : i ≤ S.size) (hS : S.size ≤ 100000) (hw : (word (tl S) i).1 ≠ []) (hk : keyword (word (tl S) i).1 = false) (hwl : (word (tl S) i).1.length ≤ 1000)
    (hm : mark (tl S) (word (tl S) i).2 [61] = some a) (ht : TermOK S a t b) (hb : b ≤ S.size) (hm2 : mark (tl S) b [59] = some j) :
    Calls Tryz.prog 15 #[.pointer (some ⟨pb, 0, none⟩)] w (GDef pb S j ⟨(word (tl S) i).1, t⟩ w) := by
  refine of_post fun R hR => ?_
  have hlt := hp.lt
  have HM := Lib.hid (madeK (S := fun b => b = pb) w zero14a 69 (by rintro b rfl; exact hlt))
  have HPA := Lib.hid (hp.on (ext_al w (.cells zero14a 69)))
  have HLT := Lib.hid hlt
  have hle := word_le (tl S) i hi
  rw [tl_len] at hle
  have hwm := mark_word hw
  obtain ⟨c0, rest, hcr⟩ : ∃ c r, (word (tl S) i).1 = c :: r := List.exists_cons_of_ne_nil hw
  have HWC := fun w h => Lib.hid (wordT S i pb 0 0 w h hi hS)
  have HKC := fun w => Lib.hid (keywordT ⟨(word (tl S) i).1.toArray⟩ w)
  rw [show tl ⟨(word (tl S) i).1.toArray⟩ = (word (tl S) i).1 from rfl, hk] at HKC
  have HN1 := fun w h => Lib.hid (needT S ⟨(word (tl S) i).1.toArray⟩ i (word (tl S) i).2 pb 0 w h hi hS (by show 0 < (word (tl S) i).1.toArray.size; rw [hcr]; simp) (by show (word (tl S) i).1.toArray.size ≤ 1000; simpa using hwl) hwm (.inr rfl))
  have HN2 := fun w h => Lib.hid (needT S ⟨#[61]⟩ (word (tl S) i).2 a pb 0 w h hle hS (by decide) (by decide) hm (.inl (by decide)))
  have HN3 := fun w h => Lib.hid (needT S ⟨#[59]⟩ b j pb 0 w h hb hS (by decide) (by decide) hm2 (.inl (by decide)))
  have HT := Lib.hid ht
  have HNE := sv_nil_ne hw
  have HNE2 : List.isEmpty (word (tl S) i).1 = false := by simpa using hw
  have HNE3 : ¬ (word (tl S) i).1 = [] := hw
  clear hwm hwl hcr hm hm2 hle hw hk ht hp
  generalize hW : (word (tl S) i).1 = W at *
  have hsv : sv W = .string ⟨W.toArray⟩ := rfl
  clear hW
  go_enter Tryz.func15, Tryz.ntmps15
  go_upto_region 8 with (first
    | (go_at_call 26; refine (HWC _ HPA.out).out.mono ?_; rintro e wB ⟨rfl, hw⟩; obtain rfl := hw)
    | (go_at_call 27; refine (HKC _).out.mono ?_; rintro e wB ⟨rfl, hx⟩; replace HPA := Lib.hid (HPA.out.on hx); replace HM := Lib.hid (HM.out.on hx); clear hx)
    | (go_at_call 29; first
        | ((with_reducible refine (HN1 _ HPA.out).out.mono ?_); rintro e wN ⟨rfl, hm⟩; replace HPA := Lib.hid hm.at_; replace HM := Lib.hid (HM.out.keep hm.keeps); clear hm)
        | ((with_reducible refine (HN2 _ HPA.out).out.mono ?_); rintro e wN ⟨rfl, hm⟩; replace HPA := Lib.hid hm.at_; replace HM := Lib.hid (HM.out.keep hm.keeps); clear hm))
    | (go_at_call 30; refine (HT.out pb _ HPA.out).mono ?_; rintro e wT ⟨⟨⟨cs, rfl, hr⟩, hk⟩, hpa⟩; have HQ0 := fr_ltK HM; have HQ1 := fr_pb HPA; replace HM := Lib.hid (HM.out.keep hk); replace HPA := Lib.hid hpa; have HR := Lib.hid hr; clear hk hpa; obtain ⟨x0, x1, x2, x3, x4, x5, x6, x7, x8, x9, y0, y1, y2, y3, y4, y5, y6, y7, y8, y9, z0, z1, z2, z3, z4, z5, z6, rfl⟩ := RdT.thirteenA hr; clear hr))
  have HBV := Blk.new wT #[.string ⟨W.toArray⟩, .int .i64 x0, .string x1, .int .i64 x2, .bool x3, .int .i64 x4, .string x5, .slice x6 x7 x8, .slice x9 y0 y1, .slice y2 y3 y4, .slice y5 y6 y7, .slice y8 y9 z0, .slice z1 z2 z3, .slice z4 z5 z6] 69
  have hxv := ext_al wT (.cells #[.string ⟨W.toArray⟩, .int .i64 x0, .string x1, .int .i64 x2, .bool x3, .int .i64 x4, .string x5, .slice x6 x7 x8, .slice x9 y0 y1, .slice y2 y3 y4, .slice y5 y6 y7, .slice y8 y9 z0, .slice z1 z2 z3, .slice z4 z5 z6] 69)
  generalize hwv : wT.alloc (.cells #[.string ⟨W.toArray⟩, .int .i64 x0, .string x1, .int .i64 x2, .bool x3, .int .i64 x4, .string x5, .slice x6 x7 x8, .slice x9 y0 y1, .slice y2 y3 y4, .slice y5 y6 y7, .slice y8 y9 z0, .slice z1 z2 z3, .slice z4 z5 z6] 69) = wV at *
  have HVL : Hid (¬ wT.heap.size = pb) := Lib.hid (by have := HPA.out.lt; omega)
  replace HPA := Lib.hid (HPA.out.on hxv)
  replace HM := Lib.hid (HM.out.on hxv)
  have HR2 := Lib.hid (RdT.on hxv _ _ HR.out)
  generalize wT.heap.size = vb at *
  clear hxv hwv HR
  go_wp2_with (first
    | (go_at_call 29; refine (HN3 _ HPA.out).out.mono ?_; rintro e wN ⟨rfl, hm⟩; replace HPA := Lib.hid hm.at_; replace HM := Lib.hid (HM.out.keep hm.keeps); have HBW := Lib.hid (HBV.keeps hm.keeps HVL.out); have HA := Lib.hid (RdD_of (nm := W) (RdT.keeps hm.keeps HQ1.out _ _ HR2.out)); clear hm)
    | (refine wpList_load_blk rfl 69 _ rfl vb _ _ HBW.out rfl _ Tryz.underlying69 rfl info14p ?_)
    | (refine wpList_answerK (kD ⟨W, t⟩) rfl 69 _ _ rfl rfl HM rfl info14p HA HQ0 rfl rfl ?_; intro w9 HG HK))
  exact GivenK.fin HG Tryz.results15 rfl _ Tryz.underlying69 rfl info14p rfl fun h => hR.out _ _ ⟨h, Blk.keeps HPA.out HK.out (by have := HLT.out; omega)⟩
end Go.Proofs.YtnpaikdaogikcaaGreatDoor

/- No definition of a row is deep. -/
namespace Go.Proofs.YtnpaikdaogikcaaGreatDoor
set_option maxRecDepth 100000
open Go.RowKit
set_option linter.unusedVariables false
set_option linter.unusedSimpArgs false

theorem RdD.fourteen {p : Nat → Prop} {w : World} {d : D} {cs : Array Value} (h : RdD p w d cs.toList) : ∃ ts : Array Value, cs = #[sv d.name] ++ ts ∧ RdT p w d.term ts.toList := by
  obtain ⟨ts, e, h⟩ := h
  exact ⟨ts.toArray, Array.ext' (by simp [e]), h⟩
set_option maxHeartbeats 1000000 in
theorem deep1 (p : Nat → Prop) (w : World) (d : D) (cs : Array Value) (h : RdD p w d cs.toList) (hs : d.term.size ≤ 1000000) :
    Calls Tryz.prog 17 #[.agg cs] w fun e w' => e = .returned (.bool (decide (32 < d.term.depth))) ∧ Ext w w' := by
  refine of_post fun R hR => ?_
  obtain ⟨ts, rfl, hr⟩ := h.fourteen
  obtain ⟨x0, x1, x2, x3, x4, x5, x6, x7, x8, x9, y0, y1, y2, y3, y4, y5, y6, y7, y8, y9, z0, z1, z2, z3, z4, z5, z6, rfl⟩ := RdT.thirteenA hr
  have HD := fun W hx => Lib.hid (depthT d.term.size d.term p _ W (RdT.on hx _ _ hr) (Nat.le_refl _) hs)
  have hdd := T.depth_size d.term
  have HDD := Lib.hid hdd
  have HS := Lib.hid hs
  clear hr hs hdd
  generalize d.term.depth = q at *
  generalize sv d.name = nm at *
  simp only [Array.append_singleton, List.append_toArray, List.cons_append, List.nil_append]
  generalize hx : w.alloc (.cells #[nm, .int .i64 x0, .string x1, .int .i64 x2, .bool x3, .int .i64 x4, .string x5, .slice x6 x7 x8, .slice x9 y0 y1, .slice y2 y3 y4, .slice y5 y6 y7, .slice y8 y9 z0, .slice z1 z2 z3, .slice z4 z5 z6] 69) = W
  have HB : Hid (Blk W w.heap.size #[nm, .int .i64 x0, .string x1, .int .i64 x2, .bool x3, .int .i64 x4, .string x5, .slice x6 x7 x8, .slice x9 y0 y1, .slice y2 y3 y4, .slice y5 y6 y7, .slice y8 y9 z0, .slice z1 z2 z3, .slice z4 z5 z6] 69) := Lib.hid (by rw [← hx]; exact Blk.new _ _ _)
  have HX : Hid (Ext w W) := Lib.hid (by rw [← hx]; exact ext_al _ _)
  have hq : (q : Int) ≤ 1000000 := by have := HDD.out; have := HS.out; omega
  have HDW := HD W HX.out
  clear HD
  go_enter Tryz.func17, Tryz.ntmps17
  go_wp2_with (first
    | (refine wpList_load_mid rfl 51 _ rfl w.heap.size 1 rfl [.int .i64 x0, .string x1, .int .i64 x2, .bool x3, .int .i64 x4, .string x5, .slice x6 x7 x8, .slice x9 y0 y1, .slice y2 y3 y4, .slice y5 y6 y7, .slice y8 y9 z0, .slice z1 z2 z3, .slice z4 z5 z6] _ (HB.out.range _ 1 (fun j v hj => by rw [Nat.add_comm]; simpa using hj)) Tryz.underlying51 rfl info13p ?_)
    | (go_at_call 18; refine HDW.out.mono ?_; rintro e w5 ⟨rfl, hx5⟩; have HX5 := Lib.hid (HX.out.trans' hx5); clear hx5))
  exact hR.out _ _ ⟨ret_b rfl (by simp; omega), HX5.out⟩
set_option maxHeartbeats 2000000 in
theorem deepIdx (p : Nat → Prop) (w : World) (L : List D) (ics : List (List Value)) (A : Option Addr) (c : Nat) (h : All2 (RdD p w) L ics) (hc : CellsAt w A ics.flatten) (hd : ∀ d ∈ L, d.term.depth ≤ 32 ∧ d.term.size ≤ 1000000) (hl : L.length ≤ 100000) (hlc : L.length ≤ c) :
    Calls Tryz.prog 31 #[.slice A L.length c, .func (.func 17) #[] #[]] w fun e w' => e = .returned (.int .i64 (-1)) ∧ Ext w w' := by
  refine of_post fun R hR => ?_
  have HEN : Enters Tryz.prog 17 := enters_of Tryz.func17 (by kernel_rfl) rfl
  unfold Enters at HEN
  have HA2 := Lib.hid h
  have HCA := Lib.hid hc
  have HDD := Lib.hid hd
  clear h hc hd
  go_enter Tryz.func31, Tryz.ntmps31
  go_wp2_with fail
  go_loopw [8] (fun iv wr => ∃ i : Nat, iv = .int .i64 i ∧ i ≤ L.length ∧ Hid (Ext w wr)) (fun iv _ => L.length - (intOf iv).toNat)
  case atStart => exact ⟨0, rfl, Nat.zero_le _, Lib.hid (Ext.refl' _)⟩
  case round =>
    obtain ⟨i, rfl, hi, HX⟩ := hrel
    by_cases hlt : i < L.length
    · obtain ⟨ci, h1, h2⟩ := HA2.out.get hlt
      have hne : ics.flatten ≠ [] := by
        intro e
        have hm := List.mem_of_getElem? h1
        have := h2.len
        have h3 : ci = [] := List.flatten_eq_nil_iff.1 e ci hm
        rw [h3] at this; simp at this
      obtain ⟨b, o, rfl, hcell⟩ := HCA.out hne
      have hrg := rows_range (k := 14) (fun x hx => by
        obtain ⟨a, _, ha⟩ := HA2.out.mem2 hx
        exact ha.len) hcell h1
      have HRG : Hid (wr.rangeAt b (o + i * 14) ci) := Lib.hid fun j v hv => HX.out.cell' (hrg j v hv)
      have HLN : Hid (ci.length = 14) := Lib.hid h2.len
      obtain ⟨hd1, hd2⟩ := HDD.out _ (List.getElem_mem hlt)
      have HC1 := Lib.hid (deep1 p wr L[i] ci.toArray (movesD.mv _ _ _ _ _ _ (fun _ _ h => h.ext HX.out) (by simpa using h2)) hd2)
      rw [show decide (32 < L[i].term.depth) = false from decide_eq_false (by omega)] at HC1
      clear h1 h2 hne hcell hrg hd1 hd2
      go_wp2_with (first
        | (refine wpList_load_mid rfl 69 _ rfl _ _ rfl ci _ HRG.out Tryz.underlying69 rfl (by rw [HLN.out]; exact info14p) ?_)
        | (refine HC1.out.mono ?_; rintro e w5 ⟨rfl, hx⟩; have HX5 := Lib.hid (HX.out.trans' hx); clear hx))
      go_roundw
      case rel => exact ⟨i + 1, by go_num, hlt, HX5⟩
      case measure => simp [intOf]; omega
    · obtain rfl : i = L.length := by omega
      go_wp2_with fail
      exact hR.out _ _ ⟨rfl, HX.out⟩
theorem noneDeep (p : Nat → Prop) (w : World) (L : List D) (ics : List (List Value)) (A : Option Addr) (c : Nat) (h : All2 (RdD p w) L ics) (hc : CellsAt w A ics.flatten) (hd : ∀ d ∈ L, d.term.depth ≤ 32 ∧ d.term.size ≤ 1000000) (hl : L.length ≤ 100000) (hlc : L.length ≤ c) :
    Calls Tryz.prog 16 #[.slice A L.length c, .func (.func 17) #[] #[]] w fun e w' => e = .returned (.bool false) ∧ Ext w w' := by
  refine of_post fun R hR => ?_
  have HC := Lib.hid (deepIdx p w L ics A c h hc hd hl hlc)
  clear h hc hd
  generalize L.length = n at *
  go_enter Tryz.func16, Tryz.ntmps16
  go_wp2_with (go_at_call 31; refine HC.out.mono ?_; rintro e w5 ⟨rfl, hx⟩; have HX5 := Lib.hid hx; clear hx)
  exact hR.out _ _ ⟨rfl, HX5.out⟩
end Go.Proofs.YtnpaikdaogikcaaGreatDoor

/- The terms' parser: the definitions of a text, each of which is read. -/
namespace Go.Proofs.YtnpaikdaogikcaaGreatDoor
set_option maxRecDepth 100000
open Go.RowKit
set_option linter.unusedVariables false
set_option linter.unusedSimpArgs false

/-- The definitions of a text, one behind the other, each with a term that is read. -/
inductive DefsOK (S : ByteArray) (L : List D) : List D → Nat → Prop where
  | done {acc : List D} {i : Nat} : acc ≠ [] → (tl S).length ≤ blanks (tl S) i → L = acc → DefsOK S L acc i
  | more {acc : List D} {i a b e2 : Nat} {x : T} : (acc = [] ∨ blanks (tl S) i < (tl S).length) → (word (tl S) i).1 ≠ [] → keyword (word (tl S) i).1 = false → mark (tl S) (word (tl S) i).2 [61] = some a → TermOK S a x b → a ≤ b → b ≤ S.size → mark (tl S) b [59] = some e2 → DefsOK S L (acc ++ [⟨(word (tl S) i).1, x⟩]) e2 → DefsOK S L acc i
theorem DefsOK.step {S : ByteArray} {L acc : List D} {i : Nat} (h : DefsOK S L acc i) : (acc ≠ [] ∧ (tl S).length ≤ blanks (tl S) i ∧ L = acc) ∨
    ((acc = [] ∨ blanks (tl S) i < (tl S).length) ∧ (word (tl S) i).1 ≠ [] ∧ keyword (word (tl S) i).1 = false ∧ ∃ a x b e2, mark (tl S) (word (tl S) i).2 [61] = some a ∧ TermOK S a x b ∧ (a ≤ b ∧ b ≤ S.size) ∧ mark (tl S) b [59] = some e2 ∧ DefsOK S L (acc ++ [⟨(word (tl S) i).1, x⟩]) e2) := by
  cases h with
  | done h1 h2 h3 => exact .inl ⟨h1, h2, h3⟩
  | more h1 h2 h3 h4 h5 h6 h7 h8 h9 => exact .inr ⟨h1, h2, h3, _, _, _, _, h4, h5, ⟨h6, h7⟩, h8, h9⟩
theorem DefsOK.grow {S : ByteArray} {L acc : List D} {i : Nat} (h : DefsOK S L acc i) : acc <+: L := by
  induction h with
  | done _ _ h3 => rw [h3]; exact List.prefix_refl _
  | more _ _ _ _ _ _ _ _ _ ih => exact (List.prefix_append _ _).trans ih
theorem RdD.lits {p : Nat → Prop} {w : World} {d : D} {cs : Array Value} (h : RdD p w d cs.toList) : ∃ k0 nm k b n s A la c B lb d1 K lk kc W lw wc P lp pc X lx xc Z lz zc, cs = #[sv d.name, .int .i64 k0, .string nm, .int .i64 k, .bool b, .int .i64 n, .string s, .slice A la c, .slice B lb d1, .slice K lk kc, .slice W lw wc, .slice P lp pc, .slice X lx xc, .slice Z lz zc] := by
  obtain ⟨ts, e, hr⟩ := h
  obtain ⟨x0, x1, x2, x3, x4, x5, x6, x7, x8, x9, y0, y1, y2, y3, y4, y5, y6, y7, y8, y9, z0, z1, z2, z3, z4, z5, z6, e2⟩ := RdT.thirteen hr
  exact ⟨x0, x1, x2, x3, x4, x5, x6, x7, x8, x9, y0, y1, y2, y3, y4, y5, y6, y7, y8, y9, z0, z1, z2, z3, z4, z5, z6, Array.ext' (by rw [e, e2])⟩
theorem row_far {base : Nat} {w : World} {v : Value} {l : List D} {ics : List (List Value)} (h : Hid (RowOf RdD 69 14 base w v l ics)) (hb : base ≤ w.heap.size) : Hid (∀ b, Fr w.heap.size b → base ≤ b ∧ v.ownBlock ≠ some b) := Lib.hid fun b hb2 => by
  have h1 : w.heap.size ≤ b := hb2
  exact ⟨by omega, fun e => by have := (h.out.own.lt _ e).2; omega⟩
theorem own_lt {base : Nat} {w : World} {v : Value} {l : List D} {ics : List (List Value)} (h : Hid (RowOf RdD 69 14 base w v l ics)) : Hid (∀ b, v.ownBlock = some b → base ≤ b) := Lib.hid fun b hb => (h.out.own.lt b hb).1
/-- The loop's state. -/
structure DSt (w : World) (S : ByteArray) (L : List D) (acc : List D) (v : Value) (ics : List (List Value)) (i : Nat) (wr : World) : Prop where
  ext : Ext w wr
  pa : PA 66 wr w.heap.size S i 0 0
  row : RowOf RdD 69 14 (w.heap.size + 1) wr v acc ics
  go : DefsOK S L acc i
  le : i ≤ S.size
  few : acc.length ≤ i
theorem info14P : (Tryz.prog.info? 69).map (fun i => (i.zero, i.size, i.bytes)) = some (some (.agg zero14a), 14, 248) := by kernel_rfl
def GRow (L : List D) (w : World) (A : Option Addr) (c : Nat) (w' : World) : Prop := L.length ≤ c ∧ ∃ ics, All2 (RdD (Fr w.heap.size) w') L ics ∧ CellsFrom (Fr w.heap.size) w' A ics.flatten
set_option maxHeartbeats 4000000 in
theorem parse_readG (S : ByteArray) (hS : S.size ≤ 8192) (L : List D) (hp : DefsOK S L [] 0) (hdep : ∀ d ∈ L, d.term.depth ≤ 32) (hg : ∀ d ∈ L, d.name.length ≤ 1000 ∧ d.term.size ≤ 1000000) (w : World) :
    Calls Tryz.prog 9 #[.string S] w fun e w' => (∃ A c, e = .returned (.tuple #[.slice A L.length c, .int .i64 0, .int .i64 0]) ∧ GRow L w A c w') ∧ Ext w w' := by
  refine of_post fun R hR => ?_
  have HGD := Lib.hid hg
  have HDP := Lib.hid hdep
  have HX0 := ext_al w (.cells #[.string S, .int .i64 0, .int .i64 0, .int .i64 0] 66)
  have HP0 : PA 66 (w.alloc (.cells #[.string S, .int .i64 0, .int .i64 0, .int .i64 0] 66)) w.heap.size S 0 0 0 := Blk.new w _ _
  have HST := Lib.hid (DSt.mk HX0 HP0 (RowOf.nil RdD _ _ _ _) hp (Nat.zero_le _) (Nat.zero_le _))
  clear hp hg hdep HX0 HP0
  go_enter Tryz.func9, Tryz.ntmps9
  go_wp2_with fail
  go_loopw [6] (fun iv wr => ∃ acc ics i, Hid (DSt w S L acc iv ics i wr)) (fun _ wr => S.size - atOf w.heap.size wr)
  case atStart => exact ⟨[], [], 0, HST⟩
  case round =>
    obtain ⟨acc, ics, i, HD⟩ := hrel
    obtain ⟨A, c, rfl⟩ := HD.out.row.form
    have hc := HD.out.pa.cell
    have HPA := Lib.hid HD.out.pa
    have HAT := Lib.hid HD.out.pa.atOf
    have hgo := HD.out.go
    obtain ⟨hne, hbl, hL⟩ | ⟨hor, hw, hk, a, x, b, e2, hm, hx, hxl, hm2, hgo2⟩ := hgo.step
    · subst hL
      have HB : Hid (∀ w', PA 66 w' w.heap.size S i 0 0 → Calls Tryz.prog 14 #[.pointer (some ⟨w.heap.size, 0, none⟩)] w' fun e w'' => e = .returned (.int .i64 (blanks (tl S) i)) ∧ w'' = w') := Lib.hid fun w' h => aheadT S i _ 0 0 w' h HD.out.le (by omega)
      have hrr := HD.out.row.all.imp (fun _ _ hr => movesD.mv _ (Fr w.heap.size) _ wr _ _ (fun B ds hc => hc.mono fun b hb => by have := hb.1; show w.heap.size ≤ b; omega) hr)
      have hcf := HD.out.row.cells
      have hlc := HD.out.row.cap
      have hfew := HD.out.few
      have hile := HD.out.le
      have HND := Lib.hid (noneDeep (Fr w.heap.size) wr L ics A c hrr hcf.at_ (fun d hd => ⟨HDP.out d hd, (HGD.out d hd).2⟩) (by omega) hlc)
      have HFIN : Hid (GRow L w A c wr) := Lib.hid ⟨hlc, ics, hrr, hcf.mono fun b hb => by have h1 : w.heap.size + 1 ≤ b := hb; show w.heap.size ≤ b; omega⟩
      have hpos : 0 < L.length := List.length_pos_iff.2 hne
      have hbs : (S.size : Int) ≤ blanks (tl S) i := by rw [tl_len] at hbl; omega
      have hb2 : (blanks (tl S) i : Int) ≤ 100000 := by have := blanks_le' S HD.out.le; omega
      have HX := Lib.hid HD.out.ext
      have hn0 : ((L.length : Int) == 0) = false := by simp; omega
      clear hrr hcf hfew hgo hne hbl HST hlc
      generalize hnl : L.length = n at *
      generalize blanks (tl S) i = bl at *
      have HNL := Lib.hid hnl
      clear hnl
      go_wp2_with (first
        | (go_at_call 14; refine (HB.out _ HPA.out).mono ?_; rintro e wr ⟨rfl, hw⟩; obtain rfl := hw)
        | (go_at_call 16; refine HND.out.mono ?_; rintro e w5 ⟨rfl, hx⟩; have HX5 := Lib.hid hx; clear hx))
      have HG5 : Hid (GRow L w A c w5) := Lib.hid (by
        obtain ⟨q1, ics', q2, q3⟩ := HFIN.out
        exact ⟨q1, ics', q2.imp fun _ _ hr => movesD.mv _ _ _ _ _ _ (fun B ds hc => hc.ext HX5.out) hr, q3.ext HX5.out⟩)
      refine bodyPost_ret (results_tmp3 Tryz.results9 _ _ _) rfl (hR.out _ _ ⟨⟨A, c, rfl, HG5.out⟩, HX.out.trans' HX5.out⟩)
    · have hpre := hgo2.grow
      obtain ⟨hg2, hg3⟩ := HGD.out ⟨(word (tl S) i).1, x⟩ (hpre.subset (by simp))
      have hwle := word_le2 (S := S) (i := i) HD.out.le
      have hale := mark_le hm hwle
      have HDF := Lib.hid (fun w' h => defT S i a b e2 w.heap.size x w' h HD.out.le (by omega) hw hk hg2 hm hx hxl.2 hm2)
      have hlt : i < e2 := by
        have h1 := word_gt hw
        have h2 := mark_ge hm
        have h3 := mark_ge hm2
        have h4 := hxl.1
        omega
      have HLT := Lib.hid hlt
      have HE2 := Lib.hid (mark_le hm2 hxl.2)
      have HGO := Lib.hid hgo2
      have HB : Hid (∀ w', PA 66 w' w.heap.size S i 0 0 → Calls Tryz.prog 14 #[.pointer (some ⟨w.heap.size, 0, none⟩)] w' fun e w'' => e = .returned (.int .i64 (blanks (tl S) i)) ∧ w'' = w') := Lib.hid fun w' h => aheadT S i _ 0 0 w' h HD.out.le (by omega)
      have HOR : Hid ((acc.length : Int) = 0 ∨ (blanks (tl S) i : Int) < S.size) := Lib.hid (by rcases hor with h | h; left; rw [h]; rfl; right; rw [tl_len] at h; omega)
      have HFW := Lib.hid HD.out.few
      have HSI := Lib.hid HD.out.le
      have HRW := Lib.hid HD.out.row
      have HX := Lib.hid HD.out.ext
      clear hor hpre hg2 hg3 hwle hale hxl hw hk hm hx hm2 hgo2 hgo hlt HST HD
      generalize hnl : acc.length = n at *
      generalize blanks (tl S) i = bl at *
      generalize (word (tl S) i).1 = W at *
      have HLL : Hid (acc.length ≤ 1000000) := Lib.hid (by have := HFW.out; have := HSI.out; omega)
      by_cases hn0 : n = 0
      · obtain rfl : n = 0 := hn0
        clear HOR
        go_upto_region 7 with (first
          | (go_at_call 15; refine (HDF.out _ HPA.out).mono ?_; rintro r wD ⟨⟨⟨cs, rfl, hr⟩, hk⟩, hpa⟩; have HPD := Lib.hid hpa; have HFR := row_far HRW (Nat.lt_of_lt_of_le HPA.out.lt (Nat.le_refl _)); have HXD := Lib.hid (Keeps.below HX.out hk fun k hk e => by omega); have HRD := Lib.hid (HRW.out.keeps movesD hk fun b hb e => by omega); obtain ⟨x0, x1, x2, x3, x4, x5, x6, x7, x8, x9, y0, y1, y2, y3, y4, y5, y6, y7, y8, y9, z0, z1, z2, z3, z4, z5, z6, rfl⟩ := RdD.lits hr; have HY := Lib.hid (movesD.mv _ _ _ _ _ _ (fun B ds hc => hc.mono HFR.out) hr); have HON := Lib.hid hr.one; clear hr hk hpa hc; have hsz : w.heap.size + 1 ≤ wD.heap.size := HPD.out.lt)
          | (at_builtin; go_loud (refine wpList_grow movesD rfl _ _ 43 rfl (.agg zero14a) 248 Tryz.underlying43 info14P rfl (by decide) [_, _, _, _, _, _, _, _, _, _, _, _, _, _] rfl ⟨W, x⟩ rfl HRD HY HON.out rfl HLL.out (by decide) hsz ?_); intro v2 wE HRE HPU))
        have HKG := Lib.hid (Keeps.of_grown HPU.out.grown)
        have HUB := own_lt HRD
        have HPE := Lib.hid (Blk.keeps HPD.out HKG.out fun e => by have := HUB.out _ e; omega)
        have HXE := Lib.hid (Keeps.below HXD.out HKG.out fun k hk e => by have := HUB.out _ e; omega)
        have HNEW : Hid (DSt w S L (acc ++ [⟨W, x⟩]) v2 (ics ++ [_]) e2 wE) := Lib.hid ⟨HXE.out, HPE.out, HRE.out, HGO.out, HE2.out, by have h1 := HLT.out; have h2 := HFW.out; rw [List.length_append, List.length_singleton]; omega⟩
        go_wp2_with fail
        go_roundw
        case rel => exact ⟨_, _, _, HNEW⟩
        case measure =>
          have h1 := HNEW.out.pa.atOf
          have h2 := HAT.out
          have h3 := HLT.out
          have h4 := HE2.out
          rw [tl_len] at h4
          show S.size - atOf w.heap.size wE < S.size - atOf w.heap.size _
          rw [h1, h2]; omega
      · have hne0 : ((n : Int) == 0) = false := by simp; omega
        have hlt : (bl : Int) < S.size := HOR.out.resolve_left (by omega)
        clear hn0 HOR
        go_upto_region 6 with (go_at_call 14; refine (HB.out _ HPA.out).mono ?_; rintro e wr ⟨rfl, hw⟩; obtain rfl := hw)
        go_upto_region 7 with (first
          | (go_at_call 15; refine (HDF.out _ HPA.out).mono ?_; rintro r wD ⟨⟨⟨cs, rfl, hr⟩, hk⟩, hpa⟩; have HPD := Lib.hid hpa; have HFR := row_far HRW (Nat.lt_of_lt_of_le HPA.out.lt (Nat.le_refl _)); have HXD := Lib.hid (Keeps.below HX.out hk fun k hk e => by omega); have HRD := Lib.hid (HRW.out.keeps movesD hk fun b hb e => by omega); obtain ⟨x0, x1, x2, x3, x4, x5, x6, x7, x8, x9, y0, y1, y2, y3, y4, y5, y6, y7, y8, y9, z0, z1, z2, z3, z4, z5, z6, rfl⟩ := RdD.lits hr; have HY := Lib.hid (movesD.mv _ _ _ _ _ _ (fun B ds hc => hc.mono HFR.out) hr); have HON := Lib.hid hr.one; clear hr hk hpa hc; have hsz : w.heap.size + 1 ≤ wD.heap.size := HPD.out.lt)
          | (at_builtin; go_loud (refine wpList_grow movesD rfl _ _ 43 rfl (.agg zero14a) 248 Tryz.underlying43 info14P rfl (by decide) [_, _, _, _, _, _, _, _, _, _, _, _, _, _] rfl ⟨W, x⟩ rfl HRD HY HON.out rfl HLL.out (by decide) hsz ?_); intro v2 wE HRE HPU))
        have HKG := Lib.hid (Keeps.of_grown HPU.out.grown)
        have HUB := own_lt HRD
        have HPE := Lib.hid (Blk.keeps HPD.out HKG.out fun e => by have := HUB.out _ e; omega)
        have HXE := Lib.hid (Keeps.below HXD.out HKG.out fun k hk e => by have := HUB.out _ e; omega)
        have HNEW : Hid (DSt w S L (acc ++ [⟨W, x⟩]) v2 (ics ++ [_]) e2 wE) := Lib.hid ⟨HXE.out, HPE.out, HRE.out, HGO.out, HE2.out, by have h1 := HLT.out; have h2 := HFW.out; rw [List.length_append, List.length_singleton]; omega⟩
        go_wp2_with fail
        go_roundw
        case rel => exact ⟨_, _, _, HNEW⟩
        case measure =>
          have h1 := HNEW.out.pa.atOf
          have h2 := HAT.out
          have h3 := HLT.out
          have h4 := HE2.out
          rw [tl_len] at h4
          show S.size - atOf w.heap.size wE < S.size - atOf w.heap.size _
          rw [h1, h2]; omega
end Go.Proofs.YtnpaikdaogikcaaGreatDoor
