/- The linker: a number, or a pick of such, is right. -/
import Derived.Test.YtnpaikdaogikcaaGreatDoorG25
import Derived.Test.YtnpaikdaogikcaaGreatDoorG21
import Derived.Test.YtnpaikdaogikcaaGreatDoorG04
import Derived.Test.YtnpaikdaogikcaaGreatDoorG07

namespace Go.Proofs.YtnpaikdaogikcaaGreatDoor
set_option maxRecDepth 100000
open Go.RowKit
set_option linter.unusedVariables false
set_option linter.unusedSimpArgs false

set_option maxHeartbeats 4000000 in
theorem rightT (kp : Value) (d : Nat) : ∀ (x : T) (p : Nat → Prop) (cs : List Value) (w : World), RdT p w x cs → LinkT x → T.size x ≤ d → d ≤ 1000 →
    Calls Tryz.prog 19 #[kp, .agg cs.toArray, .slice none 0 0] w fun e w' => e = .returned (.int .i64 0) ∧ Ext w w' := by
  induction d with
  | zero => intro x p cs w _ _ h; have := T.size_pos x; omega
  | succ d ih =>
    intro x p cs w hr hg hd hD
    refine of_post fun R hR => ?_
    have hk02 := hg.kinds
    obtain ⟨kind, name, lit, keys, weights, args, exprs, isos⟩ := x
    simp only [T.kind] at hk02
    have hdx : T.sizes args ≤ d := by simp only [T.size] at hd; omega
    have hall : args.length ≤ 1000 := by have := sizesT_len args; omega
    have HGA : Hid (∀ x ∈ args, LinkT x) := Lib.hid hg.parts
    have HDX := Lib.hid hdx
    have HD := Lib.hid hD
    have HRES : Hid (T.size (.mk kind name lit keys weights args exprs isos) = T.sizes args + 1) := Lib.hid (by simp only [T.size])
    have HOW := fun W (hx : Ext w W) => Lib.hid (ownT _ p cs W kp (RdT.on hx _ _ hr) hg)
    simp only [RdT] at hr
    obtain ⟨vs, K, kc, W0, wc, A, c, X, xc, Z, zc, ics, xcs, e, hv, _, _, hc, _, _, _, _, hes, hcf, _, _, _⟩ := hr
    obtain ⟨k, b, n, s, A1, la, c1, B, lb, d1, rfl⟩ := hv.six
    subst e
    unfold V6
    have HV := Lib.hid hes
    have HCF := Lib.hid hcf
    have HIH := fun x p cs w h1 h2 h3 h4 => Lib.hid (ih x p cs w h1 h2 h3 h4)
    have HTK := fun i h => Lib.hid (sizes_take args i h)
    have HTL : Hid (∀ i, _) := Lib.hid fun i => (sizes_take_le args i)
    have HALL : Hid (T.sizes (args.take args.length) = T.sizes args) := Lib.hid (by rw [List.take_length])
    have hc' := hc
    have hk8 : ((kind : Int) == 8) = false := by simp; omega
    clear hes hcf hv hd hD ih hc hg hk02
    simp only [List.cons_append, List.nil_append]
    go_enter Tryz.func19, Tryz.ntmps19
    go_upto_region 1 with fail
    generalize hW : w.alloc _ = W
    have HXW : Hid (Ext w W) := Lib.hid (by rw [← hW]; exact (Ext.refl' w).alloc' _)
    have HC8 : Hid (W.cell? ⟨w.heap.size, 10, none⟩ = some (.slice A args.length c)) := Lib.hid (by rw [← hW, (Blk.new w _ _).cell]; rfl)
    have HC0 : Hid (W.cell? ⟨w.heap.size, 0, none⟩ = some (.int .i64 kind)) := Lib.hid (by rw [← hW, (Blk.new w _ _).cell]; rfl)
    have HBB : Hid (Blk W w.heap.size #[.int .i64 kind, sv name, .int .i64 k, .bool b, .int .i64 n, .string s, .slice A1 la c1, .slice B lb d1, .slice K keys.length kc, .slice W0 weights.length wc, .slice A args.length c, .slice X exprs.length xc, .slice Z isos.length zc] 51) := Lib.hid (by rw [← hW]; exact Blk.new w _ _)
    have HOW1 := HOW W HXW.out
    clear hW HOW
    generalize w.heap.size = b0 at *
    go_upto_region 5 with (first
      | (refine wpList_load_blk rfl 51 _ rfl b0 _ _ HBB.out rfl _ Tryz.underlying51 rfl info13p ?_)
      | (go_at_call 32; refine HOW1.out.mono ?_; rintro e wO ⟨rfl, hx⟩; have HXO := Lib.hid hx; have hcA := hx.cell' HC8.out; clear hx))
    have HC8' := Lib.hid (HXO.out.cell' HC8.out)
    have HC0' := Lib.hid (HXO.out.cell' HC0.out)
    have HXW' := Lib.hid (HXW.out.trans' HXO.out)
    clear hcA
    go_loopw [22] (fun iv wr => ∃ i : Nat, iv = .int .i64 i ∧ i ≤ args.length ∧ Hid (Ext wO wr)) (fun iv _ => args.length - (intOf iv).toNat)
    case atStart => exact ⟨0, rfl, Nat.zero_le _, Lib.hid (Ext.refl' _)⟩
    case round =>
      obtain ⟨i, rfl, hi, HXR⟩ := hrel
      have HC := Lib.hid ((HXR.out).cell' HC8'.out)
      have HC2 := Lib.hid ((HXR.out).cell' HC0'.out)
      have hc8 := HC.out
      by_cases hlt : i < args.length
      · obtain ⟨bA, oA, rfl, _, hcell⟩ := HCF.out (fun h => by
          have hl := ((RdTs_iff _ _ _ _).1 HV.out).length
          cases ics with
          | nil => rw [List.length_nil] at hl; omega
          | cons c0 r => cases args with
            | nil => simp at hlt
            | cons a r2 =>
              have := HV.out
              simp only [RdTs] at this
              obtain ⟨c1, r1, he, h1, _⟩ := this
              cases he
              have := h1.len
              simp at h; simp [h.1] at this)
        obtain ⟨ci, hri, hrg⟩ := RdTs_row HV.out hcell hlt
        have hxw : Ext w wr := HXW'.out.trans' HXR.out
        have HRG : Hid (wr.rangeAt bA (oA + i * 13) ci) := Lib.hid fun j v hv => hxw.cell' (hrg j v hv)
        have htk := (HTK i hlt).out
        have hle1 := HTL.out i
        have hle2 := HTL.out (i + 1)
        have HCI := Lib.hid (fun w5 (hx5 : Ext wr w5) => HIH args[i] p ci w5 (RdT.on (hxw.trans' hx5) _ _ hri) (HGA.out _ (List.getElem_mem hlt)) (Nat.le_trans (T.sizes_mem (List.getElem_mem hlt)) HDX.out) (by have := HD.out; omega))
        have HXR' := HXR
        obtain ⟨x0, x1, x2, x3, x4, x5, x6, x7, x8, x9, y0, y1, y2, y3, y4, y5, y6, y7, y8, y9, z0, z1, z2, z3, z4, z5, z6, rfl⟩ := RdT.thirteen hri
        clear hxw hrg hcell HIH HTK HTL HV hri
        clear htk hle1 hle2 hdx
        go_upto_region 7 with (first
          | (refine wpList_load_mid rfl 51 _ rfl _ _ rfl _ _ HRG.out Tryz.underlying51 rfl info13p ?_))
        have HBV := Blk.new wr #[.int .i64 x0, .string x1, .int .i64 x2, .bool x3, .int .i64 x4, .string x5, .slice x6 x7 x8, .slice x9 y0 y1, .slice y2 y3 y4, .slice y5 y6 y7, .slice y8 y9 z0, .slice z1 z2 z3, .slice z4 z5 z6] 51
        have hxv := ext_al wr (.cells #[.int .i64 x0, .string x1, .int .i64 x2, .bool x3, .int .i64 x4, .string x5, .slice x6 x7 x8, .slice x9 y0 y1, .slice y2 y3 y4, .slice y5 y6 y7, .slice y8 y9 z0, .slice z1 z2 z3, .slice z4 z5 z6] 51)
        generalize hwv : wr.alloc (.cells #[.int .i64 x0, .string x1, .int .i64 x2, .bool x3, .int .i64 x4, .string x5, .slice x6 x7 x8, .slice x9 y0 y1, .slice y2 y3 y4, .slice y5 y6 y7, .slice y8 y9 z0, .slice z1 z2 z3, .slice z4 z5 z6] 51) = wV at *
        have HXV := Lib.hid hxv
        have hck := hxv.cell' HC2.out
        generalize wr.heap.size = vb at *
        clear hxv hwv hc8
        go_wp2_with (first
          | (refine wpList_load_blk rfl 51 _ rfl vb _ _ HBV rfl _ Tryz.underlying51 rfl info13p ?_)
          | (go_at_call 19; refine (HCI.out _ HXV.out).out.mono ?_; rintro e w6 ⟨rfl, hx⟩; have HX7 := Lib.hid (HXR'.out.trans' (HXV.out.trans' hx)); clear hx))
        go_roundw
        case rel => exact ⟨i + 1, by go_num, hlt, HX7⟩
        case measure => simp [intOf]; omega
      · obtain rfl : i = args.length := by omega
        have HXX := Lib.hid (HXW'.out.trans' HXR.out)
        clear HIH HTK HTL HV
        go_wp2_with fail
        exact hR.out _ _ ⟨rfl, HXX.out⟩
end Go.Proofs.YtnpaikdaogikcaaGreatDoor

/- The linker: a name's width; what a name reaches. -/
namespace Go.Proofs.YtnpaikdaogikcaaGreatDoor
set_option maxRecDepth 100000
open Go.RowKit
set_option linter.unusedVariables false
set_option linter.unusedSimpArgs false

/-- A linker of one definition: the terms' map, the widths'. -/
structure Lnk (w : World) (kb mb wb : Nat) (nm : Bs) (cs : List Value) (ws : List (Bs × Value)) : Prop where
  blk : Blk w kb #[.map (some mb), .map (some wb), .map none] 78
  terms : MapB w mb [(nm, .agg cs.toArray)]
  widths : MapB w wb ws
theorem Lnk.on {w w' : World} {kb mb wb : Nat} {nm : Bs} {cs : List Value} {ws : List (Bs × Value)} (h : Lnk w kb mb wb nm cs ws) (hx : Ext w w') : Lnk w' kb mb wb nm cs ws := ⟨h.blk.on hx, h.terms.on hx, h.widths.on hx⟩
theorem zeroTerm (w : World) : (zeroValue 51).run Tryz.prog w = .ok (.agg zero13a) w := by kernel_rfl
theorem zeroInt (w : World) : (zeroValue 3).run Tryz.prog w = .ok (.int .i64 0) w := by kernel_rfl
set_option maxHeartbeats 2000000 in
theorem reachesT (kb mb wb : Nat) (nm tn : Bs) (cs : List Value) (ws : List (Bs × Value)) (sn : Value) (t : T) (p : Nat → Prop) (w : World) (h : Lnk w kb mb wb nm cs ws) (hn : nm.length ≤ 1000) (hr : RdT p w t cs) (hg : LinkT t) (hs : t.size ≤ 1000) :
    Calls Tryz.prog 20 #[.pointer (some ⟨kb, 0, none⟩), sv nm, sv tn, sn] w fun e w' => e = .returned (.bool false) ∧ Ext w w' := by
  refine of_post fun R hR => ?_
  have hc := h.blk.cell
  have HM := Lib.hid h.terms
  have HLD := Lib.hid (leadsT t.size t p cs w hr hg (Nat.le_refl _) hs)
  have HN : Hid (nm.length ≤ 1000000) := Lib.hid (by omega)
  clear h hr hg hs
  go_enter Tryz.func20, Tryz.ntmps20
  go_wp2_with (first
    | (refine wpList_look rfl _ _ false rfl Tryz.underlying74 Tryz.underlying9 HM (by simp) (zeroTerm _) nm HN.out rfl rfl (some (.agg cs.toArray)) (by simp [assocB]) ?_)
    | (go_at_call 35; refine HLD.out.mono ?_; rintro e w1 ⟨rfl, hx⟩; have HX := Lib.hid hx; clear hx))
  go_loopw [19] (fun iv wr => iv = .int .i64 0 ∧ wr = w1) (fun _ _ => 0)
  case atStart => exact ⟨rfl, rfl⟩
  case round =>
    obtain ⟨rfl, rfl⟩ := hrel
    go_wp2_with fail
    exact hR.out _ _ ⟨rfl, HX.out⟩
set_option maxHeartbeats 2000000 in
theorem namedT (kb mb wb : Nat) (nm : Bs) (cs : List Value) (t : T) (p : Nat → Prop) (w : World) (h : Lnk w kb mb wb nm cs []) (hd1 : mb ≠ wb) (hd2 : kb ≠ wb) (hn : nm.length ≤ 1000) (hr : RdT p w t cs) (hg : LinkT t) (hs : t.size ≤ 1000) :
    Calls Tryz.prog 22 #[.pointer (some ⟨kb, 0, none⟩), sv nm] w fun e w' => e = .returned (.int .i64 t.size) ∧ Keeps (fun b => b = wb) w w' ∧ Lnk w' kb mb wb nm cs [(nm, .int .i64 t.size)] := by
  refine of_post fun R hR => ?_
  have HL := Lib.hid h
  have hc := h.blk.cell
  have HM := Lib.hid h.terms
  have HW := Lib.hid h.widths
  have HWD := Lib.hid (wideT t.size t p cs w (.pointer (some ⟨kb, 0, none⟩)) hr hg (Nat.le_refl _) hs)
  have HN : Hid (nm.length ≤ 1000000) := Lib.hid (by omega)
  clear h hr hg hs
  generalize t.size = z at *
  go_enter Tryz.func22, Tryz.ntmps22
  go_wp2_with (first
    | (refine wpList_look rfl _ _ false rfl Tryz.underlying74 Tryz.underlying9 HM (by simp) (zeroTerm _) nm HN.out rfl rfl (some (.agg cs.toArray)) (by simp [assocB]) ?_)
    | (refine wpList_look rfl _ _ true rfl Tryz.underlying75 Tryz.underlying9 HW (by simp) (zeroInt _) nm HN.out rfl rfl none (by simp [assocB]) ?_)
    | (go_at_call 36; refine HWD.out.mono ?_; rintro e w1 ⟨rfl, hx⟩; have HX := Lib.hid hx; have HL1 := Lib.hid (HL.out.on hx); have hc1 := HL1.out.blk.cell; have HW1 := Lib.hid HL1.out.widths; clear hx hc)
    | (refine wpList_mapSet rfl _ _ _ rfl Tryz.underlying75 Tryz.underlying9 HW1 (by simp) nm HN.out (.int .i64 z) rfl rfl rfl (by simp [assocB]) ?_; intro w2 HW2 HK2))
  exact hR.out _ _ ⟨rfl, (Keeps.of_ext HX.out).trans HK2.out, HL1.out.blk.keeps HK2.out hd2, HL1.out.terms.keeps HK2.out hd1, HW2.out⟩
end Go.Proofs.YtnpaikdaogikcaaGreatDoor

/- Is a word a keyword? -/
namespace Go.Proofs.YtnpaikdaogikcaaGreatDoor
set_option maxRecDepth 100000
open Go.RowKit
set_option linter.unusedVariables false
set_option linter.unusedSimpArgs false

theorem ext_al' (w : World) (o : Obj) : Ext w (w.alloc o) := (Ext.refl' w).alloc' o
abbrev kwZ : List ByteArray := [⟨#[106, 117, 115, 116]⟩, ⟨#[105, 110, 116]⟩, ⟨#[112, 105, 99, 107]⟩, ⟨#[108, 105, 115, 116]⟩, ⟨#[116, 101, 120, 116]⟩, ⟨#[108, 101, 116]⟩, ⟨#[102, 114, 111, 109]⟩, ⟨#[105, 110]⟩, ⟨#[119, 104, 101, 114, 101]⟩, ⟨#[109, 97, 112]⟩]
theorem containsS_any (l : List ByteArray) (x : ByteArray) : Lib.containsS l x = l.any fun k => decide (tl k = tl x) := by
  rw [Bool.eq_iff_iff, Lib.containsS_iff, List.any_eq_true]
  constructor
  · intro h; exact ⟨x, h, by simp⟩
  · rintro ⟨k, hk, he⟩
    have := tl_inj (of_decide_eq_true he)
    rw [← this]; exact hk
theorem keywordT (S : ByteArray) (w : World) : Calls Tryz.prog 27 #[.string S] w fun e w' => e = .returned (.bool (keyword (tl S))) ∧ Ext w w' := by
  refine of_post fun R hR => ?_
  have HC : ∀ c W, Blk W w.heap.size (kwZ.map Value.string).toArray 9 → Hid (Calls Tryz.prog 33 #[.slice (some ⟨w.heap.size, 0, none⟩) 10 c, .string S] W fun e w' => e = .returned (.bool (keyword (tl S))) ∧ w' = W) := fun c W hb => Lib.hid (by
    have h := Tryz.slices_Contains_string w.heap.size 0 10 c kwZ S W (by decide) (by decide) (fun j hj => by
      rw [Nat.zero_add, hb.cell]
      have : (kwZ.map Value.string).toArray[j]? = some (.string (kwZ.getD j ByteArray.empty)) := by
        simp only [List.getElem?_toArray, List.getElem?_map, List.getD_eq_getElem?_getD]
        rw [List.getElem?_eq_getElem hj]; rfl
      exact this)
    rw [containsS_any] at h
    exact h)
  have HB := Blk.new w (kwZ.map Value.string).toArray 9
  have HX := Lib.hid (ext_al' w (.cells (kwZ.map Value.string).toArray 9))
  go_enter Tryz.func27, Tryz.ntmps27
  go_wp2_with (go_at_call 33; refine (HC _ _ HB).out.mono ?_; rintro e w1 ⟨rfl, hw⟩; obtain rfl := hw)
  exact hR.out _ _ ⟨rfl, HX.out⟩
end Go.Proofs.YtnpaikdaogikcaaGreatDoor
