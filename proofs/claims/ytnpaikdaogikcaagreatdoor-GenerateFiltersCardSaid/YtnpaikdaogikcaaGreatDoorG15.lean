/- Expressions: their parts in memory, how deep they are. -/
import Derived.Test.YtnpaikdaogikcaaGreatDoorG13
import Derived.Test.YtnpaikdaogikcaaGreatDoorG14

namespace Go.Proofs.YtnpaikdaogikcaaGreatDoor
set_option maxRecDepth 100000
open Go.RowKit
set_option linter.unusedVariables false
set_option linter.unusedSimpArgs false

/-- An expression's parts in memory, one by one. -/
theorem RdEs_row {p : Nat → Prop} {w : World} {args : List E} {ics : List (List Value)} {b o : Nat} (h : RdEs p w args ics) (hc : ∀ j u, ics.flatten[j]? = some u → w.cell? ⟨b, o + j, none⟩ = some u) {i : Nat} (hi : i < args.length) : ∃ c, RdE p w args[i] c ∧ w.rangeAt b (o + i * 9) c := by
  have hA := (RdEs_iff _ _ _ _).1 h
  obtain ⟨c, h1, h2⟩ := hA.get hi
  refine ⟨c, h2, rows_range (fun c hc => ?_) hc h1⟩
  obtain ⟨a, _, ha⟩ := hA.mem2 hc
  exact ha.len
theorem depths_take (l : List E) (i : Nat) (h : i < l.length) : E.depths (l.take (i + 1)) = max (E.depths (l.take i)) (E.depth l[i]) := by
  induction l generalizing i with
  | nil => simp at h
  | cons x l ih =>
    cases i with
    | zero => simp [E.depths]
    | succ i =>
      have := ih i (by simpa using h)
      simp only [List.take_succ_cons, E.depths, List.getElem_cons_succ, this]
      omega
theorem depths_mem (l : List E) (i : Nat) (h : i < l.length) : E.depth l[i] ≤ E.depths l := by
  induction l generalizing i with
  | nil => simp at h
  | cons x l ih =>
    cases i with
    | zero => simp [E.depths]; omega
    | succ i =>
      have := ih i (by simpa using h)
      simp only [E.depths, List.getElem_cons_succ]; omega
theorem depths_take_le (l : List E) (i : Nat) : E.depths (l.take i) ≤ E.depths l := by
  induction l generalizing i with
  | nil => simp
  | cons x l ih => cases i with
    | zero => simp [E.depths]
    | succ i => have := ih i; simp only [List.take_succ_cons, E.depths]; omega
end Go.Proofs.YtnpaikdaogikcaaGreatDoor

/- How deep an expression is: the program's. -/
namespace Go.Proofs.YtnpaikdaogikcaaGreatDoor
set_option maxRecDepth 100000
open Go.RowKit
set_option linter.unusedVariables false
set_option linter.unusedSimpArgs false

set_option maxHeartbeats 1000000 in
theorem depthX (d : Nat) : ∀ (x : E) (p : Nat → Prop) (cs : List Value) (w : World), RdE p w x cs → E.size x ≤ d → d ≤ 1000000 →
    Calls Tryz.prog 183 #[.agg cs.toArray] w fun e w' => e = .returned (.int .i64 (E.depth x)) ∧ Ext w w' := by
  induction d with
  | zero => intro x p cs w _ h; have := E.size_pos x; omega
  | succ d ih =>
    intro x p cs w hr hd hD
    refine of_post fun R hR => ?_
    obtain ⟨op, name, lit, args⟩ := x
    have hdx : E.sizes args ≤ d := by simp only [E.size] at hd; omega
    have hall : args.length ≤ 1000000 := by have := E.sizes_len args; omega
    have hdp : E.depths args ≤ 1000000 := by have := E.depths_sizes args; omega
    have HDX := Lib.hid hdx
    have HD := Lib.hid hD
    have HRES : Hid (E.depth (.mk op name lit args) = E.depths args + 1) := Lib.hid (by simp only [E.depth])
    simp only [RdE] at hr
    obtain ⟨vs, A, c, ics, e, hv, hc, hes, hcf⟩ := hr
    obtain ⟨k, b, n, s, A1, la, c1, B, lb, d1, rfl⟩ := hv.six
    subst e
    unfold V6
    have HV := Lib.hid hes
    have HCF := Lib.hid hcf
    have HIH := fun x p cs w h1 h2 h3 => Lib.hid (ih x p cs w h1 h2 h3)
    have HTK := fun i h => Lib.hid (depths_take args i h)
    have HTL : Hid (∀ i, _) := Lib.hid fun i => (depths_take_le args i)
    have HTM : Hid (∀ i h, _) := Lib.hid fun i h => (depths_mem args i h)
    have HALL : Hid (E.depths (args.take args.length) = E.depths args) := Lib.hid (by rw [List.take_length])
    have hc' := hc
    clear hes hcf hv hdx hd hD ih hc
    simp only [List.cons_append, List.nil_append]
    go_enter Tryz.func183, Tryz.ntmps183
    go_wp2_with fail
    generalize hW : w.alloc _ = W
    have HXW : Hid (Ext w W) := Lib.hid (by rw [← hW]; exact (Ext.refl' w).alloc' _)
    have HC8 : Hid (W.cell? ⟨w.heap.size, 8, none⟩ = some (.slice A args.length c)) := Lib.hid (by rw [← hW, (Blk.new w _ _).cell]; rfl)
    clear hW
    generalize w.heap.size = b0 at *
    go_loopw [3, 9] (fun nv iv wr => ∃ i : Nat, iv = .int .i64 i ∧ i ≤ args.length ∧ nv = .int .i64 (E.depths (args.take i) : Nat) ∧ Hid (Ext W wr)) (fun _ iv _ => args.length - (intOf iv).toNat)
    case atStart => exact ⟨0, rfl, Nat.zero_le _, rfl, Lib.hid (Ext.refl' _)⟩
    case round =>
      obtain ⟨i, rfl, hi, rfl, HXR⟩ := hrel
      have HC := Lib.hid ((HXR.out).cell' HC8.out)
      have hc8 := HC.out
      by_cases hlt : i < args.length
      · obtain ⟨bA, oA, rfl, _, hcell⟩ := HCF.out (fun h => by
          have hl := ((RdEs_iff _ _ _ _).1 HV.out).length
          cases ics with
          | nil => rw [List.length_nil] at hl; omega
          | cons c0 r => cases args with
            | nil => simp at hlt
            | cons a r2 =>
              have := HV.out
              simp only [RdEs] at this
              obtain ⟨c1, r1, he, h1, _⟩ := this
              cases he
              have := h1.len
              simp at h; simp [h.1] at this)
        obtain ⟨ci, hri, hrg⟩ := RdEs_row HV.out hcell hlt
        have hxw : Ext w wr := HXW.out.trans' HXR.out
        have HRG : Hid (wr.rangeAt bA (oA + i * 9) ci) := Lib.hid fun j v hv => hxw.cell' (hrg j v hv)
        have HLN : Hid (ci.length = 9) := Lib.hid hri.len
        have HCI := fun w5 (hx5 : Ext wr w5) => HIH args[i] p ci w5 (RdE.on (hxw.trans' hx5) _ _ hri) (Nat.le_trans (E.sizes_mem (List.getElem_mem hlt)) HDX.out) (by have := HD.out; omega)
        have htk := (HTK i hlt).out
        have hle1 := HTL.out i
        have hle2 := HTM.out i hlt
        have HXR' := HXR
        clear hxw hrg hcell HIH HTK HTL HTM HV
        have HNX : Hid ((max (E.depths (args.take i)) (E.depth args[i]) : Nat) = E.depths (args.take (i + 1))) := Lib.hid htk.symm
        clear htk
        generalize E.depths (args.take i) = q at *
        generalize E.depth args[i] = dx at *
        have HMX : Hid (max (q : Int) dx = ((max q dx : Nat) : Int)) := Lib.hid (by omega)
        have HSZ : Hid (ci.toArray.size = 9) := Lib.hid (by simp [HLN.out])
        have HON : Hid (∀ u ∈ ci.toArray.toList, u.oneCell' = true) := Lib.hid (by simpa using hri.one)
        clear hri
        go_wp2_with (first
          | (refine wpList_load_mid rfl 118 _ rfl _ _ rfl ci _ HRG.out Tryz.underlying118 rfl (by rw [HLN.out]; exact info9x) ?_)
          | (refine wpList_new rfl 118 _ _ rfl rfl zero9x ci.toArray _ rfl rfl (by rw [HSZ.out]; exact info9x) (by rw [HSZ.out]; rfl) HON.out ?_; intro w4 HX4 HB4)
          | (refine wpList_load_blk rfl 118 _ rfl _ _ _ HB4.out rfl _ Tryz.underlying118 rfl (by rw [HSZ.out]; exact info9x) ?_)
          | (go_at_call 183; refine (HCI _ HX4.out).out.mono ?_; rintro e w5 ⟨rfl, hx⟩; have HX5 := Lib.hid (HXR'.out.trans' (HX4.out.trans' hx)); clear hx))
        go_roundw
        case rel => exact ⟨i + 1, by go_num, hlt, by rw [← HNX.out]; exact congrArg _ HMX.out, HX5⟩
        case measure => simp [intOf]; omega
      · obtain rfl : i = args.length := by omega
        have HXX := Lib.hid (HXW.out.trans' HXR.out)
        rw [HALL.out]
        clear HIH HTK HTL HTM HV
        go_wp2_with fail
        exact hR.out _ _ ⟨ret_i rfl (by rw [HRES.out]; simp), HXX.out⟩
end Go.Proofs.YtnpaikdaogikcaaGreatDoor

/- expr: the tree of what begins at a place. -/
namespace Go.Proofs.YtnpaikdaogikcaaGreatDoor
set_option maxRecDepth 100000
open Go.RowKit
set_option linter.unusedVariables false
set_option linter.unusedSimpArgs false

set_option maxHeartbeats 4000000 in
theorem prefixX (S : ByteArray) (i j : Nat) (x : E) (hi : i ≤ S.size) (hS : S.size ≤ 100000) (h : LX 182 S i x j) (hs : x.size ≤ 1000) (hd : E.depth x ≤ 32) (w : World) :
    Calls Tryz.prog 133 #[.string S, .int .i64 i] w fun e w' => (∃ cs, e = .returned (.tuple #[.agg cs, .int .i64 j, .int .i64 0]) ∧ AE1 x (Fr w.heap.size) w' cs) ∧ Ext w w' := by
  refine of_post fun R hR => ?_
  have hx1 := ext_al w (.cells zero9x 118)
  have hx2 := ext_al (w.alloc (.cells zero9x 118)) (.cells #[.string S, .int .i64 i, .int .i64 0, .int .i64 0] 207)
  have hp0 : PA 207 ((w.alloc (.cells zero9x 118)).alloc (.cells #[.string S, .int .i64 i, .int .i64 0, .int .i64 0] 207)) (w.heap.size + 1) S i 0 0 := by
    have := Blk.new (w.alloc (.cells zero9x 118)) #[.string S, .int .i64 i, .int .i64 0, .int .i64 0] 207
    rw [World.size_alloc] at this
    exact this
  have HRB := Lib.hid ((Blk.new w zero9x 118).on hx2)
  have HOR := Lib.hid (h (w.heap.size + 1) _ hp0)
  have HX := Lib.hid (hx1.trans' hx2)
  have HS2 : Hid (w.heap.size + 2 = ((w.alloc (.cells zero9x 118)).alloc (.cells #[.string S, .int .i64 i, .int .i64 0, .int .i64 0] 207)).heap.size) := Lib.hid (by rw [World.size_alloc, World.size_alloc])
  have HDP := fun p cs W hr => Lib.hid (depthX 1000 x p cs W hr hs (by decide))
  have g1 : ¬ (32 : Int) < E.depth x := by omega
  have g2 : ¬ (S.size : Int) < i := by omega
  generalize E.depth x = dx at *
  clear h hp0 hx1 hx2
  go_enter Tryz.func133, Tryz.ntmps133
  go_upto_region 5 with (go_at_call 182; refine HOR.out.mono ?_; rintro r w1 ⟨⟨⟨cs, rfl, ha⟩, hk⟩, hpa⟩; obtain ⟨xo, xm, xk, xb, xn, xs, xA, xla, xc, xB, xlb, xd, xC, xlc, xe, rfl⟩ := AE1.nine ha; have HXL := Lib.hid (ext_al w1 (.cells (X9 xo xm xk xb xn xs xA xla xc xB xlb xd xC xlc xe) 118)); have HA : Hid (AE1 x (fun b => w.heap.size + 1 < b ∧ b < w1.heap.size) _ _) := Lib.hid (RdE.on HXL.out _ _ (RdE.mono (fun b hb => ⟨by have h1 := HS2.out; have h2 := hb.1; omega, hb.2⟩) _ _ (RdE.lt _ _ ha))); have HPB := Lib.hid (hpa.on HXL.out); have HKW := Lib.hid ((((Keeps.of_ext HX.out).trans hk).trans (Keeps.of_ext HXL.out))); have HRC := Lib.hid ((HRB.out.keeps hk (by show ¬ w.heap.size = w.heap.size + 1; omega)).on HXL.out); have HBV := Lib.hid (Blk.new w1 (X9 xo xm xk xb xn xs xA xla xc xB xlb xd xC xlc xe) 118); have HV1 : Hid (w.heap.size + 1 < w1.heap.size) := Lib.hid (by have h1 := hk.size; have h2 := HS2.out; omega); clear ha hk hpa)
  generalize hw2 : w1.alloc (.cells (X9 xo xm xk xb xn xs xA xla xc xB xlb xd xC xlc xe) 118) = w2 at *
  clear hw2 HXL HRB HOR HX HS2
  generalize w1.heap.size = vb at *
  have hcv := HBV.out
  have hpc := HPB.out.cell
  go_upto_region 9 with (first
    | (refine wpList_load_blk rfl 118 _ rfl vb _ _ hcv rfl _ Tryz.underlying118 rfl info9x ?_)
    | (go_at_call 183; refine (HDP _ _ _ HA.out).out.mono ?_; rintro r w3 ⟨rfl, hx⟩; have HX3 := Lib.hid hx; clear hx))
  have hx : ∀ m, w3.cell? ⟨vb, m, none⟩ = (X9 xo xm xk xb xn xs xA xla xc xB xlb xd xC xlc xe)[m]? := (HBV.out.on HX3.out).cell
  have hpa : w3.cell? ⟨w.heap.size + 1, 1, none⟩ = some (.int .i64 j) := (HPB.out.on HX3.out).cell 1
  have hr : ∀ m, w3.cell? ⟨w.heap.size, m, none⟩ = zero9x[m]? := (HRC.out.on HX3.out).cell
  have hfr : ∀ m, w3.frozen? ⟨w.heap.size, m, none⟩ = false := (HRC.out.on HX3.out).frozen
  have hvb := HV1.out
  have hn1 : ¬ vb = w.heap.size := by omega
  have hn2 : ¬ w.heap.size = vb := by omega
  have HST := Lib.hid (set9 (HRC.out.on HX3.out) (.string xo) (.string xm) (.int .i64 xk) (.bool xb) (.int .i64 xn) (.string xs) (.slice xA xla xc) (.slice xB xlb xd) (.slice xC xlc xe))
  clear hcv hpc
  go_region
  all_goals
    go_wp2_with fail
    have HKN := Lib.hid (HST.out.2.drewN 1)
    have HBF := Lib.hid (HST.out.1.on ((Ext.refl' _).drewN' 1))
    refine bodyPost_ret (results_cell_2 Tryz.results133 HBF.out rfl _ Tryz.underlying118 rfl info9x) rfl (hR.out _ _ ⟨⟨_, rfl, ?_⟩, ?_⟩)
    · refine RdE.mono (p := fun b => w.heap.size + 1 < b ∧ b < vb) (fun b hb => by have := hb.1; show w.heap.size ≤ b; omega) _ _ ?_
      exact RdE.keeps HKN.out (fun b hb (e : b = w.heap.size) => by have h1 := hb.1; omega) _ _ (RdE.on HX3.out _ _ HA.out)
    · exact (((HKW.out.trans (Keeps.of_ext HX3.out)).mono (S' := fun b => w.heap.size ≤ b) fun k _ (e : k = w.heap.size + 1) => by omega).trans (HKN.out.mono fun k _ (e : k = w.heap.size) => by omega)).ext fun k hk e => by omega
end Go.Proofs.YtnpaikdaogikcaaGreatDoor
