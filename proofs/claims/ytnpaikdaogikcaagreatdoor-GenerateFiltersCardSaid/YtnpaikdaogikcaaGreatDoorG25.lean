/- The linker: what guards; how wide a term is. -/
import Derived.Test.YtnpaikdaogikcaaGreatDoorG24
import Derived.Deep.RegionWith
import Derived.Deep.CutBlock
import Derived.Deep.DeepCutAuto

namespace Go.Proofs.YtnpaikdaogikcaaGreatDoor
set_option maxRecDepth 100000
open Go.RowKit
set_option linter.unusedVariables false
set_option linter.unusedSimpArgs false

theorem guards_no (k : Int) (h3 : ¬ k = 3) (h4 : ¬ k = 4) (h5 : ¬ k = 5) (w : World) : Calls Tryz.prog 71 #[.int .i64 k] w fun e w' => e = .returned (.bool false) ∧ w' = w := by
  refine of_post fun R hR => ?_
  have g3 : (k == 3) = false := by simpa using h3
  have g4 : (k == 4) = false := by simpa using h4
  have g5 : (k == 5) = false := by simpa using h5
  go_enter Tryz.func71, Tryz.ntmps71
  go_wp2_with fail
  exact hR.out _ _ ⟨rfl, rfl⟩
theorem ext_drew {w w' : World} (h : Ext w w') : Ext w w'.drew := h.drewN' 1
theorem sizes_take (l : List T) (i : Nat) (h : i < l.length) : T.sizes (l.take (i + 1)) = T.sizes (l.take i) + T.size l[i] := by
  induction l generalizing i with
  | nil => simp at h
  | cons x l ih =>
    cases i with
    | zero => simp [T.sizes]
    | succ i =>
      have := ih i (by simpa using h)
      simp only [List.take_succ_cons, T.sizes, List.getElem_cons_succ, this]
      omega
theorem sizes_take_le (l : List T) (i : Nat) : T.sizes (l.take i) ≤ T.sizes l := by
  induction l generalizing i with
  | nil => simp
  | cons x l ih => cases i with
    | zero => simp [T.sizes]
    | succ i => have := ih i; simp only [List.take_succ_cons, T.sizes]; omega
set_option maxHeartbeats 4000000 in
theorem wideT (d : Nat) : ∀ (x : T) (p : Nat → Prop) (cs : List Value) (w : World) (kp : Value), RdT p w x cs → LinkT x → T.size x ≤ d → d ≤ 1000 →
    Calls Tryz.prog 36 #[kp, .agg cs.toArray, .bool false] w fun e w' => e = .returned (.int .i64 (T.size x)) ∧ Ext w w' := by
  induction d with
  | zero => intro x p cs w kp _ _ h; have := T.size_pos x; omega
  | succ d ih =>
    intro x p cs w kp hr hg hd hD
    refine of_post fun R hR => ?_
    have hk02 := hg.kinds
    obtain ⟨kind, name, lit, keys, weights, args, exprs, isos⟩ := x
    simp only [T.kind] at hk02
    have hdx : T.sizes args ≤ d := by simp only [T.size] at hd; omega
    have hall : args.length ≤ 1000 := by have := sizesT_len args; omega
    have HGA : Hid (∀ x ∈ args, LinkT x) := Lib.hid hg.parts
    have HDX := Lib.hid hdx
    have HD := Lib.hid hD
    have HRES : Hid (T.size (.mk kind name lit keys weights args exprs isos) = T.sizes args + 1) := Lib.hid (by simp only [T.size])
    simp only [RdT] at hr
    obtain ⟨vs, K, kc, W, wc, A, c, X, xc, Z, zc, ics, xcs, e, hv, _, _, hc, _, _, _, _, hes, hcf, _, _, _⟩ := hr
    obtain ⟨k, b, n, s, A1, la, c1, B, lb, d1, rfl⟩ := hv.six
    subst e
    unfold V6
    have HV := Lib.hid hes
    have HCF := Lib.hid hcf
    have HIH := fun x p cs w kp h1 h2 h3 h4 => Lib.hid (ih x p cs w kp h1 h2 h3 h4)
    have HTK := fun i h => Lib.hid (sizes_take args i h)
    have HTL : Hid (∀ i, _) := Lib.hid fun i => (sizes_take_le args i)
    have HALL : Hid (T.sizes (args.take args.length) = T.sizes args) := Lib.hid (by rw [List.take_length])
    have hc' := hc
    have hk7 : ((kind : Int) == 7) = false := by simp; omega
    have HKG := Lib.hid (fun w => guards_no kind (by omega) (by omega) (by omega) w)
    clear hes hcf hv hd hD ih hc hg hk02
    simp only [List.cons_append, List.nil_append]
    go_enter Tryz.func36, Tryz.ntmps36
    go_wp2_with fail
    generalize hW : w.alloc _ = W
    have HXW : Hid (Ext w W) := Lib.hid (by rw [← hW]; exact (Ext.refl' w).alloc' _)
    have HC8 : Hid (W.cell? ⟨w.heap.size, 10, none⟩ = some (.slice A args.length c)) := Lib.hid (by rw [← hW, (Blk.new w _ _).cell]; rfl)
    have HC0 : Hid (W.cell? ⟨w.heap.size, 0, none⟩ = some (.int .i64 kind)) := Lib.hid (by rw [← hW, (Blk.new w _ _).cell]; rfl)
    clear hW
    generalize w.heap.size = b0 at *
    go_loopw [7, 26] (fun nv iv wr => ∃ i : Nat, iv = .int .i64 i ∧ i ≤ args.length ∧ nv = .int .i64 (T.sizes (args.take i) + 1 : Nat) ∧ Hid (Ext W wr)) (fun _ iv _ => args.length - (intOf iv).toNat)
    case atStart => exact ⟨0, rfl, Nat.zero_le _, rfl, Lib.hid (Ext.refl' _)⟩
    case round =>
      obtain ⟨i, rfl, hi, rfl, HXR⟩ := hrel
      have HC := Lib.hid ((HXR.out).cell' HC8.out)
      have HC2 := Lib.hid ((HXR.out).cell' HC0.out)
      have hc8 := HC.out
      by_cases hlt : i < args.length
      · obtain ⟨bA, oA, rfl, _, hcell⟩ := HCF.out (fun h => by
          have hl := ((RdTs_iff _ _ _ _).1 HV.out).length
          cases ics with
          | nil => rw [List.length_nil] at hl; omega
          | cons c0 r => cases args with
            | nil => simp at hlt
            | cons a r2 =>
              have := HV.out
              simp only [RdTs] at this
              obtain ⟨c1, r1, he, h1, _⟩ := this
              cases he
              have := h1.len
              simp at h; simp [h.1] at this)
        obtain ⟨ci, hri, hrg⟩ := RdTs_row HV.out hcell hlt
        have hxw : Ext w wr := HXW.out.trans' HXR.out
        have HRG : Hid (wr.rangeAt bA (oA + i * 13) ci) := Lib.hid fun j v hv => hxw.cell' (hrg j v hv)
        have htk := (HTK i hlt).out
        have hle1 := HTL.out i
        have hle2 := HTL.out (i + 1)
        have HCI := Lib.hid (fun w5 (hx5 : Ext wr w5) => HIH args[i] p ci w5 kp (RdT.on (hxw.trans' hx5) _ _ hri) (HGA.out _ (List.getElem_mem hlt)) (Nat.le_trans (T.sizes_mem (List.getElem_mem hlt)) HDX.out) (by have := HD.out; omega))
        have HXR' := HXR
        obtain ⟨x0, x1, x2, x3, x4, x5, x6, x7, x8, x9, y0, y1, y2, y3, y4, y5, y6, y7, y8, y9, z0, z1, z2, z3, z4, z5, z6, rfl⟩ := RdT.thirteen hri
        clear hxw hrg hcell HIH HTK HTL HV hri
        have HNX : Hid (T.sizes (args.take i) + T.size args[i] = T.sizes (args.take (i + 1))) := Lib.hid htk.symm
        have hq1 : ((T.sizes (args.take i) : Nat) : Int) + 1 + (T.size args[i] : Nat) ≤ 1001 := by have := HDX.out; have := HD.out; omega
        generalize T.sizes (args.take i) = q at *
        generalize T.size args[i] = dx at *
        have hq2 : ((q + 1 : Nat) : Int) = (q : Int) + 1 := by omega
        clear htk hle1 hle2 hdx
        go_upto_region 7 with (first
          | (refine wpList_load_mid rfl 51 _ rfl _ _ rfl _ _ HRG.out Tryz.underlying51 rfl info13p ?_))
        have HBV := Blk.new wr #[.int .i64 x0, .string x1, .int .i64 x2, .bool x3, .int .i64 x4, .string x5, .slice x6 x7 x8, .slice x9 y0 y1, .slice y2 y3 y4, .slice y5 y6 y7, .slice y8 y9 z0, .slice z1 z2 z3, .slice z4 z5 z6] 51
        have hxv := ext_al wr (.cells #[.int .i64 x0, .string x1, .int .i64 x2, .bool x3, .int .i64 x4, .string x5, .slice x6 x7 x8, .slice x9 y0 y1, .slice y2 y3 y4, .slice y5 y6 y7, .slice y8 y9 z0, .slice z1 z2 z3, .slice z4 z5 z6] 51)
        generalize hwv : wr.alloc (.cells #[.int .i64 x0, .string x1, .int .i64 x2, .bool x3, .int .i64 x4, .string x5, .slice x6 x7 x8, .slice x9 y0 y1, .slice y2 y3 y4, .slice y5 y6 y7, .slice y8 y9 z0, .slice z1 z2 z3, .slice z4 z5 z6] 51) = wV at *
        have hcv := HBV.cell
        have HXV := Lib.hid hxv
        have hck := hxv.cell' HC2.out
        generalize wr.heap.size = vb at *
        clear hxv hwv hc8
        go_region_with (first
          | (go_at_call 71; refine (HKG.out _).mono ?_; rintro e w5 ⟨rfl, hw⟩; obtain rfl := hw)
          | (go_at_call 36; refine (HCI.out _ (ext_drew HXV.out)).out.mono ?_; rintro e w6 ⟨rfl, hx⟩; have HX6 := Lib.hid ((ext_drew HXV.out).trans' hx); clear hx))
        all_goals
          have HX7 := Lib.hid (HXR'.out.trans' HX6.out)
          go_wp2_with fail
          go_roundw
          case rel => exact ⟨i + 1, by go_num, hlt, by rw [← HNX.out]; congr 1; omega, HX7⟩
          case measure => simp [intOf]; omega
      · obtain rfl : i = args.length := by omega
        have HXX := Lib.hid (HXW.out.trans' HXR.out)
        have hle : T.sizes args ≤ 1000 := by have := HDX.out; have := HD.out; omega
        rw [HALL.out]
        clear HIH HTK HTL HV
        have hmn : min ((T.sizes args : Int) + 1) 1001 = (T.sizes args : Int) + 1 := by omega
        go_wp2_with fail
        exact hR.out _ _ ⟨ret_i rfl (by rw [HRES.out]; simp), HXX.out⟩
end Go.Proofs.YtnpaikdaogikcaaGreatDoor

/- The linker: numbers, and picks of such, lead on to no name. -/
namespace Go.Proofs.YtnpaikdaogikcaaGreatDoor
set_option maxRecDepth 100000
open Go.RowKit
set_option linter.unusedVariables false
set_option linter.unusedSimpArgs false

theorem infoStr1 : (Tryz.prog.info? 9).map (fun i => i.size) = some 1 := by kernel_rfl
/-- append(nil, nil...) -/
theorem wpList_append_none {P : Program} {w : World} {ops : Array Oper} {rest : List Oper} {o : Oper} {a : Act} {Q : Exit → Act → World → Prop} (hgd : o.guard = none) (s x : Operand) (t : TypeId)
    (ho : o.op = .call { callee := .builtin .append, args := #[s, x], argTypes := #[t, t] }) (e : TypeId) (ht : P.underlying t = some (.slice e)) (hi : (P.info? e).map (fun i => i.size) = some 1)
    (hs : a.eval s = .slice none 0 0) (hx : a.eval x = .slice none 0 0) (h : wpList P ops Q rest (a.put o.dst (.slice none 0 0)) w) : wpList P ops Q (o :: rest) a w :=
  wpList_plain hgd fun K hK => by
    obtain ⟨i, hq, _⟩ := Option.map_eq_some_iff.1 hi
    have hrun := run_append_of_none (P := P) w 0 t o.type e i 1 ht hq (.slice none 0 0) 0 [] ⟨by simp, .inl ⟨rfl, rfl⟩⟩ none 0
    unfold Oper.wp execOp
    simp only [ho, resolve, invoke, builtin, Sem.run_bind, Sem.run_pure, Result.andThen_ok, List.map_toArray, List.map_cons, List.map_nil, hs, hx, hrun]
    exact hK _ _ h
set_option maxHeartbeats 4000000 in
theorem leadsT (d : Nat) : ∀ (x : T) (p : Nat → Prop) (cs : List Value) (w : World), RdT p w x cs → LinkT x → T.size x ≤ d → d ≤ 1000 →
    Calls Tryz.prog 35 #[.agg cs.toArray] w fun e w' => e = .returned (.slice none 0 0) ∧ Ext w w' := by
  induction d with
  | zero => intro x p cs w _ _ h; have := T.size_pos x; omega
  | succ d ih =>
    intro x p cs w hr hg hd hD
    refine of_post fun R hR => ?_
    have hk02 := hg.kinds
    obtain ⟨kind, name, lit, keys, weights, args, exprs, isos⟩ := x
    simp only [T.kind] at hk02
    have hdx : T.sizes args ≤ d := by simp only [T.size] at hd; omega
    have hall : args.length ≤ 1000 := by have := sizesT_len args; omega
    have HGA : Hid (∀ x ∈ args, LinkT x) := Lib.hid hg.parts
    have HDX := Lib.hid hdx
    have HD := Lib.hid hD
    have HRES : Hid (T.size (.mk kind name lit keys weights args exprs isos) = T.sizes args + 1) := Lib.hid (by simp only [T.size])
    simp only [RdT] at hr
    obtain ⟨vs, K, kc, W, wc, A, c, X, xc, Z, zc, ics, xcs, e, hv, _, _, hc, _, _, _, _, hes, hcf, _, _, _⟩ := hr
    obtain ⟨k, b, n, s, A1, la, c1, B, lb, d1, rfl⟩ := hv.six
    subst e
    unfold V6
    have HV := Lib.hid hes
    have HCF := Lib.hid hcf
    have HIH := fun x p cs w h1 h2 h3 h4 => Lib.hid (ih x p cs w h1 h2 h3 h4)
    have HTK := fun i h => Lib.hid (sizes_take args i h)
    have HTL : Hid (∀ i, _) := Lib.hid fun i => (sizes_take_le args i)
    have HALL : Hid (T.sizes (args.take args.length) = T.sizes args) := Lib.hid (by rw [List.take_length])
    have hc' := hc
    have hk7 : ((kind : Int) == 7) = false := by simp; omega
    have HKG := Lib.hid (fun w => guards_no kind (by omega) (by omega) (by omega) w)
    clear hes hcf hv hd hD ih hc hg hk02
    simp only [List.cons_append, List.nil_append]
    go_enter Tryz.func35, Tryz.ntmps35
    go_wp2_with (go_at_call 71; refine (HKG.out _).mono ?_; rintro e wG ⟨rfl, hw⟩; obtain rfl := hw)
    generalize hW : w.alloc _ = W
    have HXW : Hid (Ext w W) := Lib.hid (by rw [← hW]; exact (Ext.refl' w).alloc' _)
    have HC8 : Hid (W.cell? ⟨w.heap.size, 10, none⟩ = some (.slice A args.length c)) := Lib.hid (by rw [← hW, (Blk.new w _ _).cell]; rfl)
    have HC0 : Hid (W.cell? ⟨w.heap.size, 0, none⟩ = some (.int .i64 kind)) := Lib.hid (by rw [← hW, (Blk.new w _ _).cell]; rfl)
    clear hW
    generalize w.heap.size = b0 at *
    go_loopw [3, 18] (fun nv iv wr => ∃ i : Nat, iv = .int .i64 i ∧ i ≤ args.length ∧ nv = .slice none 0 0 ∧ Hid (Ext W wr)) (fun _ iv _ => args.length - (intOf iv).toNat)
    case atStart => exact ⟨0, rfl, Nat.zero_le _, rfl, Lib.hid (Ext.refl' _)⟩
    case round =>
      obtain ⟨i, rfl, hi, rfl, HXR⟩ := hrel
      have HC := Lib.hid ((HXR.out).cell' HC8.out)
      have HC2 := Lib.hid ((HXR.out).cell' HC0.out)
      have hc8 := HC.out
      by_cases hlt : i < args.length
      · obtain ⟨bA, oA, rfl, _, hcell⟩ := HCF.out (fun h => by
          have hl := ((RdTs_iff _ _ _ _).1 HV.out).length
          cases ics with
          | nil => rw [List.length_nil] at hl; omega
          | cons c0 r => cases args with
            | nil => simp at hlt
            | cons a r2 =>
              have := HV.out
              simp only [RdTs] at this
              obtain ⟨c1, r1, he, h1, _⟩ := this
              cases he
              have := h1.len
              simp at h; simp [h.1] at this)
        obtain ⟨ci, hri, hrg⟩ := RdTs_row HV.out hcell hlt
        have hxw : Ext w wr := HXW.out.trans' HXR.out
        have HRG : Hid (wr.rangeAt bA (oA + i * 13) ci) := Lib.hid fun j v hv => hxw.cell' (hrg j v hv)
        have htk := (HTK i hlt).out
        have hle1 := HTL.out i
        have hle2 := HTL.out (i + 1)
        have HCI := Lib.hid (fun w5 (hx5 : Ext wr w5) => HIH args[i] p ci w5 (RdT.on (hxw.trans' hx5) _ _ hri) (HGA.out _ (List.getElem_mem hlt)) (Nat.le_trans (T.sizes_mem (List.getElem_mem hlt)) HDX.out) (by have := HD.out; omega))
        have HXR' := HXR
        obtain ⟨x0, x1, x2, x3, x4, x5, x6, x7, x8, x9, y0, y1, y2, y3, y4, y5, y6, y7, y8, y9, z0, z1, z2, z3, z4, z5, z6, rfl⟩ := RdT.thirteen hri
        clear hxw hrg hcell HIH HTK HTL HV hri
        clear htk hle1 hle2 hdx
        go_upto_region 9 with (first
          | (refine wpList_load_mid rfl 51 _ rfl _ _ rfl _ _ HRG.out Tryz.underlying51 rfl info13p ?_))
        have HBV := Blk.new wr #[.int .i64 x0, .string x1, .int .i64 x2, .bool x3, .int .i64 x4, .string x5, .slice x6 x7 x8, .slice x9 y0 y1, .slice y2 y3 y4, .slice y5 y6 y7, .slice y8 y9 z0, .slice z1 z2 z3, .slice z4 z5 z6] 51
        have hxv := ext_al wr (.cells #[.int .i64 x0, .string x1, .int .i64 x2, .bool x3, .int .i64 x4, .string x5, .slice x6 x7 x8, .slice x9 y0 y1, .slice y2 y3 y4, .slice y5 y6 y7, .slice y8 y9 z0, .slice z1 z2 z3, .slice z4 z5 z6] 51)
        generalize hwv : wr.alloc (.cells #[.int .i64 x0, .string x1, .int .i64 x2, .bool x3, .int .i64 x4, .string x5, .slice x6 x7 x8, .slice x9 y0 y1, .slice y2 y3 y4, .slice y5 y6 y7, .slice y8 y9 z0, .slice z1 z2 z3, .slice z4 z5 z6] 51) = wV at *
        have HXV := Lib.hid hxv
        generalize wr.heap.size = vb at *
        clear hxv hwv hc8
        go_wp2_with (first
          | (refine wpList_load_blk rfl 51 _ rfl vb _ _ HBV rfl _ Tryz.underlying51 rfl info13p ?_)
          | (go_at_call 35; refine (HCI.out _ HXV.out).out.mono ?_; rintro e w6 ⟨rfl, hx⟩; have HX7 := Lib.hid (HXR'.out.trans' (HXV.out.trans' hx)); clear hx)
          | (at_builtin; go_must (refine wpList_append_none rfl _ _ 30 rfl 9 Tryz.underlying30 infoStr1 rfl rfl ?_)))
        go_roundw
        case rel => exact ⟨i + 1, by go_num, hlt, rfl, HX7⟩
        case measure => simp [intOf]; omega
      · obtain rfl : i = args.length := by omega
        have HXX := Lib.hid (HXW.out.trans' HXR.out)
        clear HIH HTK HTL HV
        go_wp2_with fail
        exact hR.out _ _ ⟨rfl, HXX.out⟩
end Go.Proofs.YtnpaikdaogikcaaGreatDoor

/- The linker: a number, or a pick of such, is right by itself. -/
namespace Go.Proofs.YtnpaikdaogikcaaGreatDoor
set_option maxRecDepth 100000
open Go.RowKit
set_option linter.unusedVariables false
set_option linter.unusedSimpArgs false

theorem own1 (n : Int) (h1 : 1 ≤ n) (h2 : n ≤ 1000) (w : World) : Calls Tryz.prog 66 #[.int .i64 n] w fun e w' => e = .returned (.bool false) ∧ w' = w := by
  refine of_post fun R hR => ?_
  have g1 : ¬ n < 1 := by omega
  have g2 : ¬ 1000 < n := by omega
  go_enter Tryz.func66, Tryz.ntmps66
  go_wp2_with fail
  exact hR.out _ _ ⟨ret_bb rfl (by simp), rfl⟩
set_option maxHeartbeats 2000000 in
theorem ownIdx (w : World) (ws : List Int) (A : Option Addr) (c : Nat) (hc : CellsAt w A (ws.map I64)) (hd : ∀ n ∈ ws, 1 ≤ n ∧ n ≤ 1000) (hl : ws.length ≤ 100000) :
    Calls Tryz.prog 107 #[.slice A ws.length c, .func (.func 66) #[] #[]] w fun e w' => e = .returned (.int .i64 (-1)) ∧ w' = w := by
  refine of_post fun R hR => ?_
  have HEN : Enters Tryz.prog 66 := enters_of Tryz.func66 (by kernel_rfl) rfl
  unfold Enters at HEN
  have HCA := Lib.hid hc
  have HDD := Lib.hid hd
  clear hc hd
  go_enter Tryz.func107, Tryz.ntmps107
  go_wp2_with fail
  go_loopw [8] (fun iv wr => ∃ i : Nat, iv = .int .i64 i ∧ i ≤ ws.length ∧ wr = w) (fun iv _ => ws.length - (intOf iv).toNat)
  case atStart => exact ⟨0, rfl, Nat.zero_le _, rfl⟩
  case round =>
    obtain ⟨i, rfl, hi, rfl⟩ := hrel
    by_cases hlt : i < ws.length
    · obtain ⟨b, o, rfl, hcell⟩ := HCA.out (by simp; rintro rfl; simp at hlt)
      have hci : wr.cell? ⟨b, o + i, none⟩ = some (.int .i64 ws[i]) := hcell i _ (by rw [List.getElem?_map, List.getElem?_eq_getElem hlt]; rfl)
      obtain ⟨hd1, hd2⟩ := HDD.out _ (List.getElem_mem hlt)
      have HC1 := fun w => Lib.hid (own1 ws[i] hd1 hd2 w)
      clear hcell hd1 hd2
      generalize ws[i] = n at *
      go_wp2_with (refine (HC1 _).out.mono ?_; rintro e w5 ⟨rfl, hx⟩; obtain rfl := hx)
      go_roundw
      case rel => exact ⟨i + 1, by go_num, hlt, trivial⟩
      case measure => simp [intOf]; omega
    · obtain rfl : i = ws.length := by omega
      go_wp2_with fail
      exact hR.out _ _ ⟨rfl, rfl⟩
theorem ownNone (w : World) (ws : List Int) (A : Option Addr) (c : Nat) (hc : CellsAt w A (ws.map I64)) (hd : ∀ n ∈ ws, 1 ≤ n ∧ n ≤ 1000) (hl : ws.length ≤ 100000) :
    Calls Tryz.prog 65 #[.slice A ws.length c, .func (.func 66) #[] #[]] w fun e w' => e = .returned (.bool false) ∧ w' = w := by
  refine of_post fun R hR => ?_
  have HC := Lib.hid (ownIdx w ws A c hc hd hl)
  clear hc hd
  generalize ws.length = n at *
  go_enter Tryz.func65, Tryz.ntmps65
  go_wp2_with (go_at_call 107; refine HC.out.mono ?_; rintro e w5 ⟨rfl, hx⟩; obtain rfl := hx)
  exact hR.out _ _ ⟨rfl, rfl⟩
set_option maxHeartbeats 4000000 in
theorem ownT (x : T) (p : Nat → Prop) (cs : List Value) (w : World) (kp : Value) (hr : RdT p w x cs) (hg : LinkT x) :
    Calls Tryz.prog 32 #[kp, .agg cs.toArray, .slice none 0 0] w fun e w' => e = .returned (.int .i64 0) ∧ Ext w w' := by
  refine of_post fun R hR => ?_
  obtain ⟨kind, name, lit, keys, weights, args, exprs, isos⟩ := x
  simp only [RdT] at hr
  obtain ⟨vs, K, kc, W, wc, A, c, X, xc, Z, zc, ics, xcs, e, hv, _, _, hc, _, _, _, hwc, hes, hcf, hex, hxc, _⟩ := hr
  obtain ⟨k, b, n, s, A1, la, c1, B, lb, d1, rfl⟩ := hv.six
  subst e
  unfold V6
  simp only [LinkT] at hg
  rcases hg with ⟨rfl, _⟩ | ⟨rfl, _, hw1, hw2⟩ | ⟨rfl, _, hxl, hxs⟩ | ⟨rfl, _, x9, hx9, hs9⟩
  · simp only [List.cons_append, List.nil_append]
    go_enter Tryz.func32, Tryz.ntmps32
    go_wp2_with fail
    exact hR.out _ _ ⟨rfl, (Ext.refl' _).alloc' _⟩
  · have HCF := Lib.hid (fun W2 (hx : Ext w W2) => ownNone W2 weights W wc (hwc.at_.ext hx) hw2 (by omega))
    have g64 : ¬ (64 : Int) < weights.length := by omega
    simp only [List.cons_append, List.nil_append]
    go_enter Tryz.func32, Tryz.ntmps32
    go_wp2_with (go_at_call 65; refine (HCF.out _ ((Ext.refl' _).alloc' _)).mono ?_; rintro e w5 ⟨rfl, hx⟩; obtain rfl := hx)
    exact hR.out _ _ ⟨rfl, (Ext.refl' _).alloc' _⟩
  · have HWH := Lib.hid (fun W2 (hx : Ext w W2) => wholeT exprs hxs p W2 xcs X xc (RdEs.move (fun _ _ h => h.ext hx) _ _ hex) (hxc.ext hx) hxl)
    simp only [List.cons_append, List.nil_append]
    go_enter Tryz.func32, Tryz.ntmps32
    go_wp2_with (go_at_call 63; refine (HWH.out _ ((Ext.refl' _).alloc' _)).mono ?_; rintro e w5 ⟨rfl, hx⟩; have HX5 := Lib.hid (((Ext.refl' w).alloc' _).trans' hx); clear hx)
    exact hR.out _ _ ⟨rfl, HX5.out⟩
  · subst hx9
    obtain ⟨bA, oA, rfl, _, hcell⟩ := hxc (by
      have hA := (RdEs_iff _ _ _ _).1 hex
      cases hA with
      | cons h1 t => intro e; have := h1.len; simp at e; simp [e.1] at this)
    obtain ⟨ci, hri, hrg⟩ := RdEs_row hex hcell (i := 0) (by simp)
    rw [Nat.zero_mul, Nat.add_zero] at hrg
    have HRG := Lib.hid (fun W2 (hx : Ext w W2) => (show W2.rangeAt bA oA ci from fun j v hv => hx.cell' (hrg j v hv)))
    obtain ⟨yo, ym, yk, yb, yn, ys, yA, yla, yc, yB, ylb, yd, yC, ylc, ye, rfl⟩ := RdE.nine hri
    have HMY := Lib.hid (fun W2 (hx : Ext w W2) => mayT x9 63 2 1 hs9 (by decide) (by decide) has_bool p W2 (X9 yo ym yk yb yn ys yA yla yc yB ylb yd yC ylc ye) (RdE.on hx _ _ hri))
    clear hex hxc hcell hri hrg
    simp only [List.cons_append, List.nil_append]
    go_enter Tryz.func32, Tryz.ntmps32
    have HRG1 := HRG.out _ ((Ext.refl' w).alloc' (.cells #[.int .i64 9, sv name, .int .i64 k, .bool b, .int .i64 n, .string s, .slice A1 la c1, .slice B lb d1, .slice K keys.length kc, .slice W weights.length wc, .slice A args.length c, .slice (some ⟨bA, oA, none⟩) [x9].length xc, .slice Z isos.length zc] 51))
    go_wp2_with (first
      | (refine wpList_load_mid rfl 118 _ rfl _ _ rfl _ _ HRG1 Tryz.underlying118 rfl info9x ?_)
      | (go_at_call 68; refine (HMY.out _ ((Ext.refl' _).alloc' _)).mono ?_; rintro e w5 ⟨rfl, hx⟩; have HX5 := Lib.hid (((Ext.refl' w).alloc' _).trans' hx); clear hx))
    exact hR.out _ _ ⟨rfl, HX5.out⟩
end Go.Proofs.YtnpaikdaogikcaaGreatDoor
