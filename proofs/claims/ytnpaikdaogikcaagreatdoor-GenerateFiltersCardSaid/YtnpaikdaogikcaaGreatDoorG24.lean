/- The linker: an expression that may be of a kind; expressions that must be integers. -/
import Derived.Test.YtnpaikdaogikcaaGreatDoorG17
import Derived.Test.YtnpaikdaogikcaaGreatDoorG08
import Derived.Test.YtnpaikdaogikcaaGreatDoorG13

namespace Go.Proofs.YtnpaikdaogikcaaGreatDoor
set_option maxRecDepth 100000
open Go.RowKit
set_option linter.unusedVariables false
set_option linter.unusedSimpArgs false

theorem has_int (w : World) : Calls Tryz.prog 109 #[.int .i64 4, .int .i64 2] w fun e w' => e = .returned (.bool true) ∧ w' = w := by
  refine of_post fun R hR => ?_
  go_enter Tryz.func109, Tryz.ntmps109
  go_wp2_with fail
  exact hR.out _ _ ⟨rfl, rfl⟩
theorem has_bool (w : World) : Calls Tryz.prog 109 #[.int .i64 2, .int .i64 1] w fun e w' => e = .returned (.bool true) ∧ w' = w := by
  refine of_post fun R hR => ?_
  go_enter Tryz.func109, Tryz.ntmps109
  go_wp2_with fail
  exact hR.out _ _ ⟨rfl, rfl⟩
set_option maxHeartbeats 2000000 in
theorem mayT (x : E) (this s k : Int) (hx : SX x this s) (hk : 0 ≤ k) (hk5 : k ≤ 5) (hh : ∀ w, Calls Tryz.prog 109 #[.int .i64 s, .int .i64 k] w fun e w' => e = .returned (.bool true) ∧ w' = w) (p : Nat → Prop) (w : World) (cs : Array Value) (h : AE1 x p w cs) :
    Calls Tryz.prog 68 #[.agg cs, .int .i64 this, .slice none 0 0, .int .i64 k] w fun e w' => e = .returned (.int .i64 0) ∧ Ext w w' := by
  refine of_post fun R hR => ?_
  obtain ⟨xo, xm, xk, xb, xn, xs, xA, xla, xc, xB, xlb, xd, xC, xlc, xe, rfl⟩ := AE1.nine h
  have hxa := ext_al w (.cells (X9 xo xm xk xb xn xs xA xla xc xB xlb xd xC xlc xe) 118)
  have hxb := ext_al (w.alloc (.cells (X9 xo xm xk xb xn xs xA xla xc xB xlb xd xC xlc xe) 118)) (.cells (envS this) 173)
  have HX := Lib.hid (hxa.trans' hxb)
  have HCK := Lib.hid (hx p _ _ (RdE.on HX.out _ _ h))
  have HVB := Lib.hid (Blk.new (w.alloc (.cells (X9 xo xm xk xb xn xs xA xla xc xB xlb xd xC xlc xe) 118)) (envS this) 173)
  have HEB := Lib.hid ((Blk.new w (X9 xo xm xk xb xn xs xA xla xc xB xlb xd xC xlc xe) 118).on hxb)
  rw [World.size_alloc] at HVB
  have HH := fun w => Lib.hid (hh w)
  clear h hx hxa hxb hh
  go_enter Tryz.func68, Tryz.ntmps68
  go_wp2_with fail
  generalize hw2 : (w.alloc (.cells (X9 xo xm xk xb xn xs xA xla xc xB xlb xd xC xlc xe) 118)).alloc (.cells (envS this) 173) = w2 at *
  clear hw2
  generalize w.heap.size = eb at *
  go_loopw [17] (fun iv wz => iv = .int .i64 0 ∧ wz = w2) (fun _ _ => 0)
  case atStart => exact ⟨rfl, rfl⟩
  case round =>
    obtain ⟨rfl, rfl⟩ := hrel
    go_wp2_with (first
      | (refine wpList_load_blk rfl 118 _ rfl _ _ _ HEB.out rfl _ Tryz.underlying118 rfl info9x ?_)
      | (refine wpList_load_blk rfl 173 _ rfl _ _ _ HVB.out rfl _ Tryz.underlying173 rfl info3e ?_)
      | (go_at_call 108; refine HCK.out.mono ?_; rintro r w5 ⟨rfl, hx⟩; have HX5 := Lib.hid (HX.out.trans' hx); clear hx)
      | (go_at_call 109; refine (HH _).out.mono ?_; rintro r w6 ⟨rfl, hw⟩; obtain rfl := hw))
    exact hR.out _ _ ⟨rfl, HX5.out⟩
set_option maxHeartbeats 2000000 in
theorem wholeT (l : List E) (hs : ∀ x ∈ l, SX x 0 4) (p : Nat → Prop) (w : World) (ics : List (List Value)) (A : Option Addr) (c : Nat) (hr : RdEs p w l ics) (hc : CellsFrom p w A ics.flatten) (hl : l.length ≤ 1000) :
    Calls Tryz.prog 63 #[.slice A l.length c, .slice none 0 0] w fun e w' => e = .returned (.int .i64 0) ∧ Ext w w' := by
  refine of_post fun R hR => ?_
  have HR := Lib.hid hr
  have HC := Lib.hid hc
  have HS : Hid (∀ i (h : i < l.length), SX l[i] 0 4) := Lib.hid fun i h => hs _ (List.getElem_mem h)
  clear hs hr hc
  go_enter Tryz.func63, Tryz.ntmps63
  go_wp2_with fail
  go_loopw [10] (fun iv wz => ∃ i : Nat, i ≤ l.length ∧ iv = .int .i64 i ∧ Hid (Ext w wz)) (fun iv _ => l.length - (intOf iv).toNat)
  case atStart => exact ⟨0, Nat.zero_le _, rfl, Lib.hid (Ext.refl' _)⟩
  case round =>
    obtain ⟨i, hi, rfl, HX⟩ := hrel
    by_cases hlt : i < l.length
    · obtain ⟨bA, oA, rfl, _, hcell⟩ := HC.out (fun h => by
        have hA := (RdEs_iff _ _ _ _).1 HR.out
        obtain ⟨c0, h1, h2⟩ := hA.get hlt
        have h3 := List.flatten_eq_nil_iff.1 h c0 (List.mem_of_getElem? h1)
        have h4 := h2.len
        rw [h3] at h4
        simp at h4)
      obtain ⟨ci, hri, hrg⟩ := RdEs_row HR.out hcell hlt
      have hxw := HX.out
      have HRG : Hid (wr.rangeAt bA (oA + i * 9) ci) := Lib.hid fun j v hv => hxw.cell' (hrg j v hv)
      obtain ⟨yo, ym, yk, yb, yn, ys, yA, yla, yc, yB, ylb, yd, yC, ylc, ye, rfl⟩ := RdE.nine hri
      have hxv := ext_al wr (.cells (X9 yo ym yk yb yn ys yA yla yc yB ylb yd yC ylc ye) 118)
      have HCL := Lib.hid (mayT l[i] 0 4 2 (HS.out i hlt) (by decide) (by decide) has_int p (wr.alloc (.cells (X9 yo ym yk yb yn ys yA yla yc yB ylb yd yC ylc ye) 118)) (X9 yo ym yk yb yn ys yA yla yc yB ylb yd yC ylc ye) (RdE.on (hxw.trans' hxv) _ _ hri))
      have HXV := Lib.hid hxv
      clear hri hrg hcell hxw hxv HR HC HS
      go_wp2_with (first
        | (refine wpList_load_mid rfl 118 _ rfl _ _ rfl _ _ HRG.out Tryz.underlying118 rfl info9x ?_)
        | (go_at_call 68; refine HCL.out.mono ?_; rintro r w5 ⟨rfl, hx⟩; have HX5 := Lib.hid (HX.out.trans' (HXV.out.trans' hx)); clear hx))
      go_roundw
      case rel => exact ⟨i + 1, hlt, by go_num, HX5⟩
      case measure => simp [intOf]; omega
    · obtain rfl : i = l.length := by omega
      clear HR HC HS
      go_wp2_with fail
      exact hR.out _ _ ⟨rfl, HX.out⟩
end Go.Proofs.YtnpaikdaogikcaaGreatDoor

/- How deep a term is: the program's. -/
namespace Go.Proofs.YtnpaikdaogikcaaGreatDoor
set_option maxRecDepth 100000
open Go.RowKit
set_option linter.unusedVariables false
set_option linter.unusedSimpArgs false

set_option maxHeartbeats 1000000 in
theorem depthT (d : Nat) : ∀ (x : T) (p : Nat → Prop) (cs : List Value) (w : World), RdT p w x cs → T.size x ≤ d → d ≤ 1000000 →
    Calls Tryz.prog 18 #[.agg cs.toArray] w fun e w' => e = .returned (.int .i64 (T.depth x)) ∧ Ext w w' := by
  induction d with
  | zero => intro x p cs w _ h; have := T.size_pos x; omega
  | succ d ih =>
    intro x p cs w hr hd hD
    refine of_post fun R hR => ?_
    obtain ⟨kind, name, lit, keys, weights, args, exprs, isos⟩ := x
    have hdx : T.sizes args ≤ d := by simp only [T.size] at hd; omega
    have hall : args.length ≤ 1000000 := by have := sizesT_len args; omega
    have hdp : T.depths args ≤ 1000000 := by have := T.depths_sizes args; omega
    have HDX := Lib.hid hdx
    have HD := Lib.hid hD
    have HRES : Hid (T.depth (.mk kind name lit keys weights args exprs isos) = T.depths args + 1) := Lib.hid (by simp only [T.depth])
    simp only [RdT] at hr
    obtain ⟨vs, K, kc, W, wc, A, c, X, xc, Z, zc, ics, xcs, e, hv, _, _, hc, _, _, _, _, hes, hcf, _, _, _⟩ := hr
    obtain ⟨k, b, n, s, A1, la, c1, B, lb, d1, rfl⟩ := hv.six
    subst e
    unfold V6
    have HV := Lib.hid hes
    have HCF := Lib.hid hcf
    have HIH := fun x p cs w h1 h2 h3 => Lib.hid (ih x p cs w h1 h2 h3)
    have HTK := fun i h => Lib.hid (depthsT_take args i h)
    have HTL : Hid (∀ i, _) := Lib.hid fun i => (depthsT_take_le args i)
    have HTM : Hid (∀ i h, _) := Lib.hid fun i h => (depthsT_mem args i h)
    have HALL : Hid (T.depths (args.take args.length) = T.depths args) := Lib.hid (by rw [List.take_length])
    have hc' := hc
    clear hes hcf hv hdx hd hD ih hc
    simp only [List.cons_append, List.nil_append]
    go_enter Tryz.func18, Tryz.ntmps18
    go_wp2_with fail
    generalize hW : w.alloc _ = W
    have HXW : Hid (Ext w W) := Lib.hid (by rw [← hW]; exact (Ext.refl' w).alloc' _)
    have HC8 : Hid (W.cell? ⟨w.heap.size, 10, none⟩ = some (.slice A args.length c)) := Lib.hid (by rw [← hW, (Blk.new w _ _).cell]; rfl)
    clear hW
    generalize w.heap.size = b0 at *
    go_loopw [3, 9] (fun nv iv wr => ∃ i : Nat, iv = .int .i64 i ∧ i ≤ args.length ∧ nv = .int .i64 (T.depths (args.take i) : Nat) ∧ Hid (Ext W wr)) (fun _ iv _ => args.length - (intOf iv).toNat)
    case atStart => exact ⟨0, rfl, Nat.zero_le _, rfl, Lib.hid (Ext.refl' _)⟩
    case round =>
      obtain ⟨i, rfl, hi, rfl, HXR⟩ := hrel
      have HC := Lib.hid ((HXR.out).cell' HC8.out)
      have hc8 := HC.out
      by_cases hlt : i < args.length
      · obtain ⟨bA, oA, rfl, _, hcell⟩ := HCF.out (fun h => by
          have hl := ((RdTs_iff _ _ _ _).1 HV.out).length
          cases ics with
          | nil => rw [List.length_nil] at hl; omega
          | cons c0 r => cases args with
            | nil => simp at hlt
            | cons a r2 =>
              have := HV.out
              simp only [RdTs] at this
              obtain ⟨c1, r1, he, h1, _⟩ := this
              cases he
              have := h1.len
              simp at h; simp [h.1] at this)
        obtain ⟨ci, hri, hrg⟩ := RdTs_row HV.out hcell hlt
        have hxw : Ext w wr := HXW.out.trans' HXR.out
        have HRG : Hid (wr.rangeAt bA (oA + i * 13) ci) := Lib.hid fun j v hv => hxw.cell' (hrg j v hv)
        have HLN : Hid (ci.length = 13) := Lib.hid hri.len
        have HCI := fun w5 (hx5 : Ext wr w5) => HIH args[i] p ci w5 (RdT.on (hxw.trans' hx5) _ _ hri) (Nat.le_trans (T.sizes_mem (List.getElem_mem hlt)) HDX.out) (by have := HD.out; omega)
        have htk := (HTK i hlt).out
        have hle1 := HTL.out i
        have hle2 := HTM.out i hlt
        have HXR' := HXR
        clear hxw hrg hcell HIH HTK HTL HTM HV
        have HNX : Hid ((max (T.depths (args.take i)) (T.depth args[i]) : Nat) = T.depths (args.take (i + 1))) := Lib.hid htk.symm
        clear htk
        generalize T.depths (args.take i) = q at *
        generalize T.depth args[i] = dx at *
        have HMX : Hid (max (q : Int) dx = ((max q dx : Nat) : Int)) := Lib.hid (by omega)
        have HSZ : Hid (ci.toArray.size = 13) := Lib.hid (by simp [HLN.out])
        have HON : Hid (∀ u ∈ ci.toArray.toList, u.oneCell' = true) := Lib.hid (by simpa using hri.one)
        clear hri
        go_wp2_with (first
          | (refine wpList_load_mid rfl 51 _ rfl _ _ rfl ci _ HRG.out Tryz.underlying51 rfl (by rw [HLN.out]; exact info13p) ?_)
          | (refine wpList_new rfl 51 _ _ rfl rfl zero13a ci.toArray _ rfl rfl (by rw [HSZ.out]; exact info13p) (by rw [HSZ.out]; rfl) HON.out ?_; intro w4 HX4 HB4)
          | (refine wpList_load_blk rfl 51 _ rfl _ _ _ HB4.out rfl _ Tryz.underlying51 rfl (by rw [HSZ.out]; exact info13p) ?_)
          | (go_at_call 18; refine (HCI _ HX4.out).out.mono ?_; rintro e w5 ⟨rfl, hx⟩; have HX5 := Lib.hid (HXR'.out.trans' (HX4.out.trans' hx)); clear hx))
        go_roundw
        case rel => exact ⟨i + 1, by go_num, hlt, by rw [← HNX.out]; exact congrArg _ HMX.out, HX5⟩
        case measure => simp [intOf]; omega
      · obtain rfl : i = args.length := by omega
        have HXX := Lib.hid (HXW.out.trans' HXR.out)
        rw [HALL.out]
        clear HIH HTK HTL HTM HV
        go_wp2_with fail
        exact hR.out _ _ ⟨ret_i rfl (by rw [HRES.out]; simp), HXX.out⟩
end Go.Proofs.YtnpaikdaogikcaaGreatDoor

/- The linker: the terms that it takes: numbers, ranges, picks, filters. -/
namespace Go.Proofs.YtnpaikdaogikcaaGreatDoor
set_option maxRecDepth 100000
open Go.RowKit
set_option linter.unusedVariables false
set_option linter.unusedSimpArgs false

mutual
def LinkT : T → Prop
  | .mk kind _ _ _ weights parts exprs _ => (kind = 0 ∧ parts = []) ∨ (kind = 2 ∧ LinkTs parts ∧ weights.length ≤ 64 ∧ ∀ n ∈ weights, 1 ≤ n ∧ n ≤ 1000) ∨
      (kind = 1 ∧ parts = [] ∧ exprs.length ≤ 1000 ∧ ∀ x ∈ exprs, SX x 0 4) ∨ (kind = 9 ∧ LinkTs parts ∧ ∃ x, exprs = [x] ∧ SX x 63 2)
def LinkTs : List T → Prop
  | [] => True
  | x :: l => LinkT x ∧ LinkTs l
end
theorem LinkTs_mem {l : List T} (h : LinkTs l) : ∀ x ∈ l, LinkT x := by
  induction l with
  | nil => simp
  | cons y l ih =>
    simp only [LinkTs] at h
    intro x hx
    rcases List.mem_cons.1 hx with rfl | hx
    · exact h.1
    · exact ih h.2 x hx
theorem LinkT.kinds {t : T} (h : LinkT t) : t.kind = 0 ∨ t.kind = 2 ∨ t.kind = 1 ∨ t.kind = 9 := by
  cases t
  simp only [LinkT] at h
  simp only [T.kind]
  rcases h with ⟨h, _⟩ | ⟨h, _⟩ | ⟨h, _⟩ | ⟨h, _⟩
  · exact .inl h
  · exact .inr (.inl h)
  · exact .inr (.inr (.inl h))
  · exact .inr (.inr (.inr h))
theorem LinkT.parts {kind : Int} {name : Bs} {lit : V} {keys : List Bs} {weights : List Int} {parts : List T} {exprs : List E} {isos : List I} (h : LinkT (.mk kind name lit keys weights parts exprs isos)) : ∀ x ∈ parts, LinkT x := by
  simp only [LinkT] at h
  rcases h with ⟨_, h⟩ | ⟨_, h, _⟩ | ⟨_, h, _⟩ | ⟨_, h, _⟩
  · rw [h]; simp
  · exact LinkTs_mem h
  · rw [h]; simp
  · exact LinkTs_mem h
end Go.Proofs.YtnpaikdaogikcaaGreatDoor
