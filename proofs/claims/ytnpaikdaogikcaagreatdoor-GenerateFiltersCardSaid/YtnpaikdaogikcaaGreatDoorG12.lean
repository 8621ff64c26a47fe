/- expr: what stands on one level, with signs between, or ahead. -/
import Derived.Test.YtnpaikdaogikcaaGreatDoorG11
import Derived.Test.YtnpaikdaogikcaaGreatDoorG09

namespace Go.Proofs.YtnpaikdaogikcaaGreatDoor
set_option maxRecDepth 100000
open Go.RowKit
set_option linter.unusedVariables false
set_option linter.unusedSimpArgs false

/-- A level read a tree: what is known of it then. -/
theorem signedX (f : FuncId) (T O : ByteArray) (S : ByteArray) (i j : Nat) (x : E) (hent : Enters Tryz.prog f) (hi : i ≤ S.size) (hS : S.size ≤ 100000) (h1 : LX f S i x j) (h2 : mark (tl S) i (tl T) = none) (pb : Nat) (w : World) (hp : PA 207 w pb S i 0 0) :
    Calls Tryz.prog 269 #[.pointer (some ⟨pb, 0, none⟩), .func (.func f) #[] #[], .string T, .string O] w (GExpr pb S j x w) := by
  refine of_post fun R hR => ?_
  have hlt := hp.lt
  have HM := Lib.hid (madeK (S := fun b => b = pb) w zero9x 118 (by rintro b rfl; exact hlt))
  have HPA := Lib.hid (hp.on (ext_al w (.cells zero9x 118)))
  have HON := Lib.hid (h1 pb _ HPA.out)
  have HMA := Lib.hid (markX_no S T i pb 0 0 _ HPA.out hi hS (.inr h2))
  unfold Enters at hent
  clear hp h1 h2
  go_enter Tryz.func269, Tryz.ntmps269
  go_wp2_with fail
  go_loopw [9] (fun nv wr => nv = .int .i64 0 ∧ wr = w.alloc (.cells zero9x 118)) (fun _ _ => 0)
  case atStart => exact ⟨rfl, rfl⟩
  case round =>
    obtain ⟨rfl, rfl⟩ := hrel
    go_upto_region 5 with (first
      | (go_at_call 252; refine HMA.out.mono ?_; rintro r w3 ⟨rfl, hw⟩; obtain rfl := hw)
      | (refine HON.out.mono ?_; rintro r w1 ⟨⟨⟨cs, rfl, ha⟩, hk⟩, hpa⟩; obtain ⟨xo, xm, xk, xb, xn, xs, xA, xla, xc, xB, xlb, xd, xC, xlc, xe, rfl⟩ := AE1.nine ha; have HXL := Lib.hid (ext_al w1 (.cells #[.string xo, .string xm, .int .i64 xk, .bool xb, .int .i64 xn, .string xs, .slice xA xla xc, .slice xB xlb xd, .slice xC xlc xe] 118)); have HA := Lib.hid (RdE.on HXL.out _ _ ha); have HQ : Hid (∀ b, Fr _ b → w.heap.size < b) := Lib.hid (fun b hb => Nat.lt_of_lt_of_le HM.out.lt hb); have HPB := Lib.hid (hpa.on HXL.out); have HM2 := Lib.hid ((HM.out.keep hk).on HXL.out); have HBV := Lib.hid (Blk.new w1 #[.string xo, .string xm, .int .i64 xk, .bool xb, .int .i64 xn, .string xs, .slice xA xla xc, .slice xB xlb xd, .slice xC xlc xe] 118); clear ha hk hpa))
    generalize hw2 : w1.alloc (.cells #[.string xo, .string xm, .int .i64 xk, .bool xb, .int .i64 xn, .string xs, .slice xA xla xc, .slice xB xlb xd, .slice xC xlc xe] 118) = w2 at *
    clear hw2 HXL
    generalize w1.heap.size = vb at *
    go_wp2_with fail
    go_loopw [20] (fun iv wr => iv = .int .i64 0 ∧ wr = w2) (fun _ _ => 0)
    case atStart => exact ⟨rfl, rfl⟩
    case round =>
      obtain ⟨rfl, rfl⟩ := hrel
      have hcv := HBV.out
      go_wp2_with (first
        | (refine wpList_load_blk rfl 118 _ rfl vb _ _ hcv rfl _ Tryz.underlying118 rfl info9x ?_)
        | (refine wpList_answerK (kE x) rfl 118 _ _ rfl rfl HM2 rfl info9x HA HQ rfl rfl ?_; intro w9 HG HK))
      exact GivenK.fin HG Tryz.results269 rfl _ Tryz.underlying118 rfl info9x rfl fun h => hR.out _ _ ⟨h, Blk.keeps HPB.out HK.out (by omega)⟩
/-- The signs of a level, in a row. -/
abbrev Signs (w : World) (A : Option Addr) (l : List ByteArray) : Prop := CellsAt w A (l.map Value.string)
theorem indexMark (S : ByteArray) (i pb : Nat) (l : List ByteArray) (A : Option Addr) (c : Nat) (w : World) (hp : PA 207 w pb S i 0 0) (hi : i ≤ S.size) (hS : S.size ≤ 100000) (hA : Signs w A l) (hl : l.length ≤ 100)
    (k : Nat) (hk : k ≤ l.length) (hno : ∀ m, (h : m < k) → (hm : m < l.length) → mark (tl S) i (tl l[m]) = none)
    (j : Nat) (hyes : ∀ h : k < l.length, 0 < l[k].size ∧ l[k].size ≤ 1000 ∧ mark (tl S) i (tl l[k]) = some j ∧ ∀ h0 : 0 < l[k].size, isLet l[k][0] = false) :
    Calls Tryz.prog 111 #[.slice A l.length c, .func (.func 252) #[.pointer (some ⟨pb, 0, none⟩)] #[]] w fun e w' =>
      (k < l.length → e = .returned (.int .i64 k) ∧ PM 207 pb S j 0 0 w w') ∧ (k = l.length → e = .returned (.int .i64 (-1)) ∧ w' = w) := by
  refine of_post fun R hR => ?_
  have HPA := Lib.hid hp
  have HA := Lib.hid hA
  have HNO := Lib.hid hno
  have HYES := Lib.hid hyes
  have hent : Enters Tryz.prog 252 := enters_of Tryz.func252 (by kernel_rfl) rfl
  unfold Enters at hent
  clear hp hA hno hyes
  go_enter Tryz.func111, Tryz.ntmps111
  go_wp2_with fail
  go_loopw [8] (fun iv wr => ∃ m : Nat, iv = .int .i64 m ∧ m ≤ k ∧ wr = w) (fun iv _ => l.length - (intOf iv).toNat)
  case atStart => exact ⟨0, rfl, Nat.zero_le _, rfl⟩
  case round =>
    obtain ⟨m, rfl, hm, hww⟩ := hrel
    obtain rfl : w = wr := hww.symm
    clear hww
    by_cases hml : m < l.length
    · obtain ⟨b, o, rfl, hcell⟩ := HA.out (by intro e; rw [List.map_eq_nil_iff] at e; rw [e] at hml; simp at hml)
      have hq : w.cell? ⟨b, o + m, none⟩ = some (.string l[m]) := hcell m _ (by rw [List.getElem?_map, List.getElem?_eq_getElem hml]; rfl)
      by_cases hmk : m < k
      · have HMN := Lib.hid (markX_no S l[m] i pb 0 0 w HPA.out hi hS (.inr (HNO.out m hmk hml)))
        generalize l[m] = T at *
        clear hcell HNO HYES
        go_wp2_with (refine HMN.out.mono ?_; rintro r w ⟨rfl, hw⟩; obtain rfl := hw)
        go_roundw
        case rel => exact ⟨m + 1, by go_num, hmk, trivial⟩
        case measure => simp [intOf]; omega
      · obtain rfl : m = k := by omega
        obtain ⟨y1, y2, y3, y4⟩ := HYES.out hml
        have HMY := Lib.hid (markX_yes S l[m] i j pb 0 w HPA.out hi hS y1 y2 y3 (y4 y1))
        have HLT := Lib.hid hml
        generalize l[m] = T at *
        clear hcell HNO HYES y1 y2 y3 y4
        go_wp2_with (refine HMY.out.mono ?_; rintro r w2 ⟨rfl, hm⟩; have HPM := Lib.hid hm; clear hm)
        exact hR.out _ _ ⟨fun _ => ⟨rfl, HPM.out⟩, fun h => by have := HLT.out; omega⟩
    · have hmk : m = k := by omega
      have HKL : Hid (k = l.length) := Lib.hid (by omega)
      clear HNO HYES HA
      go_wp2_with fail
      exact hR.out _ _ ⟨fun h => by have := HKL.out; omega, fun _ => ⟨rfl, rfl⟩⟩
end Go.Proofs.YtnpaikdaogikcaaGreatDoor

/- expr: what stands on one level, with signs between. -/
namespace Go.Proofs.YtnpaikdaogikcaaGreatDoor
set_option maxRecDepth 100000
open Go.RowKit
set_option linter.unusedVariables false
set_option linter.unusedSimpArgs false

theorem signs_keep {w w' : World} {A : Option Addr} {l : List ByteArray} {pb : Nat} (h : Signs w A l) (hne : ∀ b o, A = some ⟨b, o, none⟩ → b ≠ pb) (hk : Keeps (fun b => b = pb) w w') : Signs w' A l := fun hn => by
  obtain ⟨b, o, e, hc⟩ := h hn
  exact ⟨b, o, e, fun k v hv => hk.cell (by have := hne b o e; exact this) (hc k v hv)⟩
/-- No sign follows. -/
theorem chainX0 (f : FuncId) (S : ByteArray) (i j : Nat) (x : E) (l : List ByteArray) (most : Nat) (hent : Enters Tryz.prog f) (hj : j ≤ S.size) (hS : S.size ≤ 100000) (h1 : LX f S i x j) (hl : l.length ≤ 100) (hno : ∀ m, (hm : m < l.length) → mark (tl S) j (tl l[m]) = none)
    (h0 : 1 ≤ most) (hm : most ≤ 1000000) (pb : Nat) (A : Option Addr) (c : Nat) (w : World) (hp : PA 207 w pb S i 0 0) (hA : Signs w A l) (hne : ∀ b o, A = some ⟨b, o, none⟩ → b ≠ pb) :
    Calls Tryz.prog 220 #[.pointer (some ⟨pb, 0, none⟩), .func (.func f) #[] #[], .int .i64 most, .slice A l.length c] w (GExpr pb S j x w) := by
  refine of_post fun R hR => ?_
  have hlt := hp.lt
  have HM := Lib.hid (madeK (S := fun b => b = pb) w zero9x 118 (by rintro b rfl; exact hlt))
  have HPA := Lib.hid (hp.on (ext_al w (.cells zero9x 118)))
  have HON := Lib.hid (h1 pb _ HPA.out)
  have HSG := Lib.hid (CellsAt.ext hA (ext_al w (.cells zero9x 118)))
  have HNE := Lib.hid hne
  have HIX := fun w h hA => Lib.hid (indexMark S j pb l A c w h hj hS hA hl l.length (Nat.le_refl _) (fun m _ hm => hno m hm) 0 (fun h => absurd h (Nat.lt_irrefl _)))
  unfold Enters at hent
  have g1 : (0 : Int) < most := by omega
  clear hp h1 hA hne hno
  go_enter Tryz.func220, Tryz.ntmps220
  go_upto_region 2 with (refine HON.out.mono ?_; rintro r w1 ⟨⟨⟨cs, rfl, ha⟩, hk⟩, hpa⟩; obtain ⟨xo, xm, xk, xb, xn, xs, xA, xla, xc, xB, xlb, xd, xC, xlc, xe, rfl⟩ := AE1.nine ha; have HXL := Lib.hid (ext_al w1 (.cells #[.string xo, .string xm, .int .i64 xk, .bool xb, .int .i64 xn, .string xs, .slice xA xla xc, .slice xB xlb xd, .slice xC xlc xe] 118)); have HA := Lib.hid (RdE.on HXL.out _ _ ha); have HQ : Hid (∀ b, Fr _ b → w.heap.size < b) := Lib.hid (fun b hb => Nat.lt_of_lt_of_le HM.out.lt hb); have HPB := Lib.hid (hpa.on HXL.out); have HM2 := Lib.hid ((HM.out.keep hk).on HXL.out); have HSG2 : Hid (Signs (w1.alloc (.cells #[.string xo, .string xm, .int .i64 xk, .bool xb, .int .i64 xn, .string xs, .slice xA xla xc, .slice xB xlb xd, .slice xC xlc xe] 118)) A l) := Lib.hid (signs_keep HSG.out HNE.out (hk.trans (Keeps.of_ext HXL.out))); have HBV := Lib.hid (Blk.new w1 #[.string xo, .string xm, .int .i64 xk, .bool xb, .int .i64 xn, .string xs, .slice xA xla xc, .slice xB xlb xd, .slice xC xlc xe] 118); clear ha hk hpa)
  generalize hw2 : w1.alloc (.cells #[.string xo, .string xm, .int .i64 xk, .bool xb, .int .i64 xn, .string xs, .slice xA xla xc, .slice xB xlb xd, .slice xC xlc xe] 118) = w2 at *
  clear hw2 HXL
  generalize w1.heap.size = vb at *
  go_wp2_with fail
  go_loopw [16] (fun iv wr => iv = .int .i64 0 ∧ wr = w2) (fun _ _ => 0)
  case atStart => exact ⟨rfl, rfl⟩
  case round =>
    obtain ⟨rfl, rfl⟩ := hrel
    have hcv := HBV.out
    go_wp2_with (first
      | (go_at_call 111; refine (HIX _ HPB.out HSG2.out).out.mono ?_; rintro r w3 ⟨_, hz⟩; obtain ⟨rfl, hw⟩ := hz trivial; obtain rfl := hw; clear hz)
      | (refine wpList_load_blk rfl 118 _ rfl vb _ _ hcv rfl _ Tryz.underlying118 rfl info9x ?_)
      | (refine wpList_answerK (kE x) rfl 118 _ _ rfl rfl HM2 rfl info9x HA HQ rfl rfl ?_; intro w9 HG HK))
    exact GivenK.fin HG Tryz.results220 rfl _ Tryz.underlying118 rfl info9x rfl fun h => hR.out _ _ ⟨h, Blk.keeps HPB.out HK.out (by omega)⟩
end Go.Proofs.YtnpaikdaogikcaaGreatDoor

/- A store in a region that draws its order: kept whole, and met by a law. -/
namespace Go.Proofs.YtnpaikdaogikcaaGreatDoor
set_option maxRecDepth 100000
open Go.RowKit
set_option linter.unusedVariables false
set_option linter.unusedSimpArgs false

/-- A store, under another name, that no rule opens. -/
def storeHid (ty : TypeId) (x y : Value) : Sem Unit := Instr.storeAt ty x y
theorem store_hide {ty : TypeId} {x y : Value} : Instr.storeAt ty x y = storeHid ty x y := rfl
/-- Some cells from place o on, put anew. -/
abbrev spliceV (cur : Array Value) (o : Nat) (cs : Array Value) : Array Value := (cur.toList.take (o + 0) ++ cs.toList ++ cur.toList.drop (o + 0 + cs.toList.length)).toArray
theorem upon_storeG {P : Program} {op : Oper} {a : Act} {W : World} {K : Act → World → Prop} {Q : Exit → Act → World → Prop} {ty t : TypeId} {v : Value} (B o : Nat) (cur cs : Array Value) (hb : Hid (Blk W B cur t)) (hv : v.cells = cs) (hi : (P.info? ty).map (·.size) = some cs.size) (hle : o + cs.size ≤ cur.size) (hd : op.dst = none)
    (h1 : ∀ u ∈ cs.toList, u.oneCell' = true) (h : ∀ w', Hid (Blk w' B (spliceV cur o cs) t) → Hid (Keeps (fun x => x = B) W w') → K (a.put op.dst undef) w') :
    op.upon P a K Q (((storeHid ty (.pointer (some ⟨B, o, none⟩)) v).run P W).andThen fun _ w' => .ok .skip w') := by
  obtain ⟨i, hq, hs⟩ := Option.map_eq_some_iff.1 hi
  have hst := run_storeCells_at (P := P) B o t cs.toList 0 cur W hb.out (by simp; omega) h1
  have hsz : (sizeOf ty).run P W = .ok cs.size W := by simp [sizeOf, typeInfo, hq, hs]
  have hrun : (storeHid ty (.pointer (some ⟨B, o, none⟩)) v).run P W = .ok () (W.setRow B (spliceV cur o cs)) := by
    unfold storeHid
    simp only [Instr.storeAt, Instr.sureAddr, storeVar, Sem.run_bind, Sem.run_pure, Result.andThen_ok, hsz, hv, ne_eq, not_true_eq_false, if_false, hst]
  rw [hrun]
  have := h _ (Lib.hid (hb.out.put _)) (Lib.hid (keeps_put W B _))
  simpa [Oper.upon, hd, Act.put] using this
end Go.Proofs.YtnpaikdaogikcaaGreatDoor
